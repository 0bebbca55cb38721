/- The reference's log: sums, frames, scans walk. No conditions beyond those typed. -/
import Derived.Test.YtngcdkbnljoodaaJouPa
namespace Go.Proofs.Ytngcdkbnljoodaa
set_option linter.unusedVariables false
set_option linter.unusedSimpArgs false
open Go.RowKit Go.Proofs.YtngcdkbnljoodaaW.PrintWords

theorem crcBit_xor (v : Nat) (hv : v < 4294967296) (h : v % 2 = 1) : bits .xor .u32 ((v / 2 : Nat) : Int) 3988292384 = ((crcBit v : Nat) : Int) := by
  unfold crcBit
  rw [h, if_pos rfl]
  exact u32_xor_nat (v / 2) 3988292384 (by omega) (by omega)
theorem crcBit_half (v : Nat) (h : v % 2 = 0) : crcBit v = v / 2 := by
  unfold crcBit
  rw [h, if_neg (by decide), Nat.xor_zero]
set_option maxHeartbeats 2000000 in
set_option maxRecDepth 100000 in
theorem RSum_of (s : ByteArray) (hs : s.size ≤ 140737488355328) (w : World) :
    Calls Try.prog 52 #[.string s] w fun e w' => e = .returned (.int .u32 (crc s.data.toList : Nat)) ∧ w = w' := by
  go_enter Try.func52, Try.ntmps52
  go_wp2
  go_loopw [3, 4] (fun n i wr => ∃ k : Nat, k ≤ s.size ∧ i = .int .i64 (k : Int) ∧ n = .int .u32 (crcFold (s.data.toList.take k) : Nat) ∧ wr = w) (fun _ i _ => s.size - (intOf i).toNat)
  case atStart => exact ⟨0, Nat.zero_le _, rfl, rfl, rfl⟩
  case round =>
    obtain ⟨k, hk, rfl, rfl, rfl⟩ := hrel
    by_cases hks : k < s.size
    · have hfs := fold_step s.data.toList k hks
      have hlt := crcFold_lt (s.data.toList.take k)
      have e0 : s[k]'hks = s.data.toList.getD k 0 := byte_get s k hks
      generalize s.data.toList.getD k 0 = c at *
      generalize crcFold (s.data.toList.take k) = n at *
      have hcb := c.toNat_lt
      obtain ⟨m, hm⟩ : ∃ m, m = n ^^^ c.toNat := ⟨_, rfl⟩
      have hm32 : m < 4294967296 := by rw [hm]; exact Nat.xor_lt_two_pow (n := 32) hlt (by omega)
      have hx : bits .xor .u32 (n : Int) (c.toNat : Int) = (m : Int) := by rw [hm]; exact u32_xor_nat n c.toNat hlt (by omega)
      have HM : Hid (crcFold (s.data.toList.take (k + 1)) = crcIt 8 m) := by show _ = _; rw [hfs, hm]; rfl
      have hc0 : (0 : Int) ≤ (k : Int) := by omega
      have hc1 : ((k : Int) < (s.size : Int)) := by omega
      have hwr : IntKind.i64.wrap ((k : Int) + 1) = (k : Int) + 1 := IntWalk.i64_in _ (by omega)
      clear hm hfs
      go_wp2
      go_loopw [3, 5] (fun v j wq => ∃ q : Nat, q ≤ 8 ∧ j = .int .i64 (q : Int) ∧ v = .int .u32 (crcIt q m : Nat) ∧ wq = wr) (fun _ j _ => 8 - (intOf j).toNat)
      case atStart => exact ⟨0, by omega, rfl, rfl, rfl⟩
      case round =>
        obtain ⟨q, hq, rfl, rfl, rfl⟩ := hrel
        by_cases hq8 : q < 8
        · have hv := crcIt_lt q hm32
          have hsu := crcIt_succ q m
          generalize crcIt q m = v at *
          have hd0 : (q : Int) < 8 := by omega
          have hwq : IntKind.i64.wrap ((q : Int) + 1) = (q : Int) + 1 := IntWalk.i64_in _ (by omega)
          have hdiv : IntKind.u32.wrap ((v : Int).tdiv 2) = ((v / 2 : Nat) : Int) := by
            have h1 : (v : Int).tdiv 2 = ((v / 2 : Nat) : Int) := rfl
            have h2 : v < 4294967296 := hv
            rw [h1, IntKind.wrap_u32]
            omega
          have HS := Lib.hid hsu
          have hv2 : v < 4294967296 := hv
          clear hsu hx hv
          rcases Nat.mod_two_eq_zero_or_one v with h2 | h2
          · have hh := crcBit_half v h2
            have hmod : (v : Int) % 2 = 0 := by omega
            have HH := Lib.hid hh
            clear hh h2
            go_wp2
            go_roundw
            case rel => exact ⟨q + 1, by omega, rfl, by rw [HS.out, HH.out, Int.natCast_ediv]; rfl, trivial⟩
            case measure => simp [intOf]; omega
          · have hh := crcBit_xor v hv2 h2
            have hmod : (v : Int) % 2 = 1 := by omega
            clear h2
            go_wp2
            go_roundw
            case rel => exact ⟨q + 1, by omega, rfl, by rw [HS.out, ← hh, Int.natCast_ediv]; rfl, trivial⟩
            case measure => simp [intOf]; omega
        · obtain rfl : q = 8 := by omega
          go_wp2
          go_roundw
          case rel => exact ⟨k + 1, by omega, rfl, by rw [HM.out], trivial⟩
          case measure => simp [intOf]; omega
    · obtain rfl : k = s.size := by omega
      have hall : s.data.toList.take s.size = s.data.toList := List.take_of_length_le (Nat.le_refl _)
      rw [hall]
      have hlt := crcFold_lt s.data.toList
      have HE : Hid (crc s.data.toList = 4294967295 - crcFold s.data.toList) := rfl
      generalize crcFold s.data.toList = n at *
      have hsub : (4294967295 - (n : Int)) = ((4294967295 - n : Nat) : Int) := by have : n < 4294967296 := hlt; omega
      have HSB := Lib.hid hsub
      clear hsub
      have hlt2 : n < 4294967296 := hlt
      clear hall hlt
      go_wp2
      go_ret
      exact ⟨by rw [HE.out, ← HSB.out]; rfl, rfl⟩
theorem head_cells (r : Bs) (h : r.length ≤ 400) : (u8v (headL r)).toArray = #[.int .u8 1, .int .u8 ((r.length : Int) / 256), .int .u8 ((r.length : Int) % 256), .int .u8 ((crc r : Int) / 16777216), .int .u8 ((crc r : Int) / 65536 % 256), .int .u8 ((crc r : Int) / 256 % 256), .int .u8 ((crc r : Int) % 256)] := by
  have hc : crc r < 4294967296 := crc_lt r
  unfold headL u8v
  generalize crc r = C at *
  simp [b8_toNat]
  omega
set_option maxHeartbeats 2000000 in
set_option maxRecDepth 100000 in
theorem RFrame_ok (s : ByteArray) (h1 : 1 ≤ s.size) (h2 : s.size ≤ 400) (w : World) :
    Calls Try.prog 37 #[.string s] w fun e w' => e = .returned (.tuple #[.string (mkS (frameL s.data.toList)), .int .i64 0]) ∧ Only [] w w' := by
  have HSM := Lib.hid (RSum_of s (by omega))
  have hc : crc s.data.toList < 4294967296 := crc_lt s.data.toList
  have hsl : s.data.toList.length = s.size := rfl
  have hcv := conv_string (l := headL s.data.toList) (blk_new w (.cells (u8v (headL s.data.toList)).toArray 5)) 7 7 rfl
  rw [head_cells _ (by omega), hsl] at hcv
  obtain ⟨A, hA⟩ : ∃ A, A = mkS (headL s.data.toList) := ⟨_, rfl⟩
  obtain ⟨O, hO⟩ : ∃ O, O = mkS [1] := ⟨_, rfl⟩
  have HF : Hid (A ++ s ++ O = mkS (frameL s.data.toList)) := by
    show _ = _
    rw [hA, hO]
    conv => lhs; rw [← mkS_list s]
    rw [mkS_append, mkS_append, list_mkS]
    rfl
  have hAs : A.size = 7 := by rw [hA]; rfl
  have hOs : O.size = 1 := by rw [hO]; rfl
  rw [← hA] at hcv
  have hO2 : ({ data := #[1] } : ByteArray) = O := by rw [hO]; rfl
  clear hsl hA hO
  generalize crc s.data.toList = C at *
  have g1 : ¬ ((s.size : Int) < 1) := by omega
  have g2 : ¬ ((400 : Int) < (s.size : Int)) := by omega
  go_enter Try.func37, Try.ntmps37
  go_wp2_with fail
  refine (HSM.out _).mono ?_
  rintro e _ ⟨rfl, rfl⟩
  go_wp2_with fail
  go_ret2
  exact ⟨by rw [HF.out]; rfl, (Only.refl _ _).alloc _⟩
theorem RFrame_no (s : ByteArray) (h : s.size = 0 ∨ 400 < s.size) (w : World) :
    Calls Try.prog 37 #[.string s] w fun e w' => e = .returned (.tuple #[.string (mkS []), .int .i64 3]) ∧ w = w' := by
  rcases h with h | h
  · have g1 : (s.size : Int) < 1 := by omega
    go_enter Try.func37, Try.ntmps37
    go_wp2
    go_ret2
    exact ⟨rfl, rfl⟩
  · have g1 : ¬ (s.size : Int) < 1 := by omega
    have g2 : (400 : Int) < (s.size : Int) := by omega
    go_enter Try.func37, Try.ntmps37
    go_wp2
    go_ret2
    exact ⟨rfl, rfl⟩
/-- Within the reference's scan. -/
def RScanIn (s : ByteArray) (w wr : World) (v : Value) (l : List Bs) (F : Nat) : Prop :=
  F = (frames l).length ∧ s.data.toList = frames l ++ s.data.toList.drop F ∧ (∀ r ∈ l, okR r) ∧ wr.ownsRow w.heap.size 9 1 v l.length (l.map strV) ∧ Only [] w wr ∧ v ≠ .slice none 0 0
def RScanPost (s : ByteArray) (w : World) (e : Ending) (w' : World) : Prop :=
  ∃ v l t, e = .returned (.tuple #[v, .int .i64 ((frames l).length : Int)]) ∧ IsScan s.data.toList l t ∧ w'.ownsRow w.heap.size 9 1 v l.length (l.map strV) ∧ Only [] w w' ∧ v ≠ .slice none 0 0
theorem RScanIn.out {s : ByteArray} {w wr : World} {v : Value} {l : List Bs} {F : Nat} (h : RScanIn s w wr v l F) (h0 : oneL (s.data.toList.drop F) = none) : RScanPost s w (.returned (.tuple #[v, .int .i64 (F : Int)])) wr := by
  obtain ⟨rfl, h1, h2, h3, h4, h5⟩ := h
  exact ⟨v, l, _, rfl, ⟨h1, h2, h0⟩, h3, h4, h5⟩
theorem RScanIn.keep {s : ByteArray} {w wr w' : World} {v : Value} {l : List Bs} {F : Nat} (h : RScanIn s w wr v l F) (ho : Only [] wr w') : RScanIn s w w' v l F := by
  obtain ⟨h0, h1, h2, h3, h4, h5⟩ := h
  exact ⟨h0, h1, h2, own_keep h3 ho (by simp), h4.tr ho, h5⟩
theorem RScanIn.step {s : ByteArray} {w wr w' : World} {v v' : Value} {l : List Bs} {F : Nat} {r : Bs} {o : Obj} (h : RScanIn s w wr v l F) (h0 : oneL (s.data.toList.drop F) = some r)
    (hown : w'.ownsRow w.heap.size 9 1 v' (l.length + 1) (l.map strV ++ [strV r])) (hg : (wr.alloc o).grownBy w' v.ownBlock) (hnil : v' ≠ .slice none 0 0) : RScanIn s w w' v' (l ++ [r]) (F + (r.length + 8)) := by
  obtain ⟨hF, h1, h2, h3, h4, h5⟩ := h
  obtain ⟨q1, q2⟩ := IsScan.step h1 h2 h0
  refine ⟨by rw [frames_snoc, List.length_append, frameL_length, hF], by rw [List.drop_drop] at q1; exact q1, q2, by rw [List.length_append, List.map_append]; exact hown, ?_, hnil⟩
  have hO : Only v.ownBlock.toList wr w' := ((Only.refl _ wr).alloc o).grown hg (fun k hk => Or.inl (by rw [hk]; simp))
  exact h4.trans hO (fun x hx => Or.inr (h3.lt x (by simpa using hx)).1)
theorem lenL_drop (L : Bs) (F : Nat) : lenL (L.drop F) = 256 * (L.getD (F + 1) 0).toNat + (L.getD (F + 2) 0).toNat := by
  unfold lenL
  simp [List.getD_eq_getElem?_getD, List.getElem?_drop]
set_option maxHeartbeats 4000000 in
set_option maxRecDepth 100000 in
theorem RScan_of (s : ByteArray) (hs : s.size ≤ 100000) (w : World) : Calls Try.prog 24 #[.string s] w (RScanPost s w) := by
  have hmix : Try.prog.follows .mixedOrders = true := by kernel_rfl
  go_enter Try.func24, Try.ntmps24
  go_wp2
  go_loopw [4, 5] (fun o i wr => ∃ (v : Value) (l : List Bs) (F : Nat), o = v ∧ i = .int .i64 (F : Int) ∧ F ≤ s.size ∧ Hid (RScanIn s w wr v l F)) (fun _ i _ => s.size - (intOf i).toNat)
  case atStart => exact ⟨_, [], 0, rfl, rfl, Nat.zero_le _, ⟨rfl, rfl, by simp, own_empty w _ _ (Nat.le_refl _), (Only.refl _ _).alloc _, by intro h; cases h⟩⟩
  case round =>
    obtain ⟨v, l, F, rfl, rfl, hF, HI⟩ := hrel
    have hLs : s.data.toList.length = s.size := rfl
    obtain ⟨F8, hF8⟩ : ∃ F8, F8 = F + 8 := ⟨_, rfl⟩
    have w8 : IntKind.i64.wrap ((F : Int) + 8) = (F8 : Int) := by rw [IntWalk.i64_in _ (by omega)]; omega
    by_cases h9 : F + 8 < s.size
    · obtain ⟨F1, hF1⟩ : ∃ F1, F1 = F + 1 := ⟨_, rfl⟩
      obtain ⟨F2, hF2⟩ : ∃ F2, F2 = F + 2 := ⟨_, rfl⟩
      obtain ⟨F7, hF7⟩ : ∃ F7, F7 = F + 7 := ⟨_, rfl⟩
      have k1 : F1 < s.size := by omega
      have k2 : F2 < s.size := by omega
      have e1 : s[F1]'k1 = s.data.toList.getD F1 0 := byte_get s F1 k1
      have e2 : s[F2]'k2 = s.data.toList.getD F2 0 := byte_get s F2 k2
      have hlen := lenL_drop s.data.toList F
      rw [← hF1, ← hF2] at hlen
      generalize s.data.toList.getD F1 0 = c1 at *
      generalize s.data.toList.getD F2 0 = c2 at *
      have hc1 := c1.toNat_lt
      have hc2 := c2.toNat_lt
      obtain ⟨m, hm⟩ : ∃ m, m = 256 * c1.toNat := ⟨_, rfl⟩
      obtain ⟨n, hn⟩ : ∃ n, n = m + c2.toNat := ⟨_, rfl⟩
      obtain ⟨T, hT⟩ : ∃ T, T = s.data.toList.drop F := ⟨_, rfl⟩
      rw [← hT] at hlen
      have hTl : T.length = s.size - F := by rw [hT, List.length_drop]; omega
      have hln : lenL T = n := by omega
      have w1 : IntKind.i64.wrap ((F : Int) + 1) = (F1 : Int) := by rw [IntWalk.i64_in _ (by omega)]; omega
      have w2 : IntKind.i64.wrap ((F : Int) + 2) = (F2 : Int) := by rw [IntWalk.i64_in _ (by omega)]; omega
      have w7 : IntKind.i64.wrap ((F : Int) + 7) = (F7 : Int) := by rw [IntWalk.i64_in _ (by omega)]; omega
      have wm : IntKind.i64.wrap (256 * (c1.toNat : Int)) = (m : Int) := by rw [IntWalk.i64_in _ (by omega)]; omega
      have wn : IntKind.i64.wrap ((m : Int) + (c2.toNat : Int)) = (n : Int) := by rw [IntWalk.i64_in _ (by omega)]; omega
      have b1 : (F1 : Int) < (s.size : Int) := by omega
      have b2 : (F2 : Int) < (s.size : Int) := by omega
      have b10 : (0 : Int) ≤ (F1 : Int) := by omega
      have b20 : (0 : Int) ≤ (F2 : Int) := by omega
      have h8 : (F8 : Int) < (s.size : Int) := by omega
      have HT := Lib.hid hT
      have HLN := Lib.hid hln
      have HTL := Lib.hid hTl
      clear hT hln hTl hlen
      by_cases hbad : n < 1 ∨ 400 < n ∨ s.size < F + 8 + n
      · have HO : Hid (oneL (s.data.toList.drop F) = none) := by
          show _ = _
          rw [← HT.out]
          unfold oneL
          split
          · rfl
          · rw [if_neg]
            rintro ⟨q1, q2, q3, _⟩
            have := HLN.out
            have := HTL.out
            omega
        have HB := Lib.hid hbad
        have HFS : Hid (F8 = F + 8) := hF8
        have hn6 : n ≤ 66000 := by omega
        by_cases q1 : n < 1
        · have g1 : (n : Int) < 1 := by omega
          clear hF8 hF1 hF2 hF7 hm hn hLs hbad q1
          go_wp2
          go_quiet (fail)
          go_wp2
          go_ret2
          exact (RScanIn.keep HI.out ((Only.refl [] _).drewN _)).out HO.out
        · by_cases q2 : 400 < n
          · have g1 : ¬ (n : Int) < 1 := by omega
            have g2 : (400 : Int) < (n : Int) := by omega
            clear hF8 hF1 hF2 hF7 hm hn hLs hbad q1 q2
            go_wp2
            go_quiet (fail)
            go_wp2
            go_ret2
            exact (RScanIn.keep HI.out ((Only.refl [] _).drewN _)).out HO.out
          · obtain ⟨E, hE⟩ : ∃ E, E = F8 + n := ⟨_, rfl⟩
            have wE : IntKind.i64.wrap ((F8 : Int) + (n : Int)) = (E : Int) := by rw [IntWalk.i64_in _ (by omega)]; omega
            have g1 : ¬ (n : Int) < 1 := by omega
            have g2 : ¬ (400 : Int) < (n : Int) := by omega
            have g3 : (s.size : Int) < (E : Int) := by omega
            clear hF8 hF1 hF2 hF7 hm hn hLs hbad q1 q2 hE
            go_wp2
            go_quiet (fail)
            go_wp2
            go_ret2
            exact (RScanIn.keep HI.out ((Only.refl [] _).drewN _)).out HO.out
      · obtain ⟨E, hE⟩ : ∃ E, E = F8 + n := ⟨_, rfl⟩
        obtain ⟨E7, hE7⟩ : ∃ E7, E7 = F7 + n := ⟨_, rfl⟩
        obtain ⟨N8, hN8⟩ : ∃ N8, N8 = 8 + n := ⟨_, rfl⟩
        have wE : IntKind.i64.wrap ((F8 : Int) + (n : Int)) = (E : Int) := by rw [IntWalk.i64_in _ (by omega)]; omega
        have wE7 : IntKind.i64.wrap ((F7 : Int) + (n : Int)) = (E7 : Int) := by rw [IntWalk.i64_in _ (by omega)]; omega
        have wN8 : IntKind.i64.wrap (8 + (n : Int)) = (N8 : Int) := by rw [IntWalk.i64_in _ (by omega)]; omega
        have wFE : IntKind.i64.wrap ((F : Int) + (N8 : Int)) = (E : Int) := by rw [IntWalk.i64_in _ (by omega)]; omega
        have g1 : ¬ (n : Int) < 1 := by omega
        have g2 : ¬ (400 : Int) < (n : Int) := by omega
        have g3 : ¬ (s.size : Int) < (E : Int) := by omega
        have i1 : (0 : Int) ≤ (F7 : Int) := by omega
        have i2 : (F7 : Int) ≤ (E7 : Int) := by omega
        have i3 : (E7 : Int) ≤ (s.size : Int) := by omega
        have i4 : (0 : Int) ≤ (F : Int) := by omega
        have i5 : (F : Int) ≤ (E : Int) := by omega
        have i6 : (E : Int) ≤ (s.size : Int) := by omega
        obtain ⟨r, hr⟩ : ∃ r, r = (T.drop 7).take n := ⟨_, rfl⟩
        have hrl : r.length = n := by
          have := HTL.out
          rw [hr, List.length_take, List.length_drop]; omega
        have x1 : s.extract F7 E7 = mkS r := by
          rw [mkS_extract, hr, HT.out, List.drop_drop, hF7, hE7, hF7, show F + 7 + n - (F + 7) = n by omega]
        have x2 : s.extract F E = mkS (T.take (n + 8)) := by
          rw [mkS_extract, HT.out, hE, hF8, show F + 8 + n - F = n + 8 by omega]
        have hrs : (mkS r).size = n := by rw [size_mkS, hrl]
        have HFR := Lib.hid (RFrame_ok (mkS r) (by omega) (by omega))
        rw [list_mkS] at HFR
        have hsb := same_bytes (T.take (n + 8)) (frameL r)
        by_cases heq : T.take (n + 8) = frameL r
        · rw [decide_eq_true heq] at hsb
          have HO : Hid (oneL (s.data.toList.drop F) = some r) := by
            show _ = _
            rw [← HT.out]
            unfold oneL
            have := HTL.out
            rw [if_neg (by omega), HLN.out, if_pos ⟨by omega, by omega, by omega, by rw [heq, hr]⟩, hr]
          have HFE : Hid (E = F + (r.length + 8) ∧ E ≤ s.size ∧ F < E) := ⟨by omega, by omega, by omega⟩
          obtain ⟨i0, hi, hz0, hz1, hz2⟩ := info_parts string_info
          have HLE : Hid (l.length ≤ 100000) := by
            have h1 := frames_count l
            have h2 : F = (frames l).length := HI.out.1
            show _ ≤ _
            omega
          clear hF8 hF1 hF2 hF7 hm hn hLs hE hE7 hN8 hr hrl hbad heq
          go_wp2_with fail
          go_quiet (fail)
          go_wp2_with fail
          refine (HFR.out _).mono ?_
          rintro e w5 ⟨rfl, ho5⟩
          have HI5 := Lib.hid ((RScanIn.keep HI.out ((Only.refl [] _).drewN _)).keep ho5)
          have HOW := Lib.hid HI5.out.2.2.2.1
          have HSZ := Lib.hid HI5.out.2.2.2.2.1.size
          clear ho5
          go_wp2_with (at_builtin; refine wpList_append_own_at _ rfl _ _ 32 rfl w.heap.size 9 i0 (.string ByteArray.empty) 1 16 Try.underlying32 hi hz0 hz1 hz2 rfl (by decide) _ _ _ rfl (HOW.out.alloc _) ⟨w5.heap.size, 0, none⟩ 1 1 [strV r] rfl rfl ?c1 ?c2 ?c3 ?c4 ?c5 ?_)
          case c1 =>
            intro m u hm
            match m, hm with
            | 0, hm => simp at hm; subst hm; simp [Addr.add, strV]
          case c2 => intro u hu; simp at hu; subst hu; rfl
          case c3 => have := HLE.out; unfold maxLen; omega
          case c4 => have := HLE.out; omega
          case c5 => have := HSZ.out; simp; omega
          intro v6 w6 hown6 hgrow6 hnil6 hat6
          have HI6 : Hid (RScanIn s w w6 v6 (l ++ [r]) E) := by
            have h := RScanIn.step HI5.out HO.out hown6 hgrow6 (fun h => hnil6 h)
            rw [HFE.out.1]
            exact h
          clear hown6 hgrow6 hnil6 hat6
          go_wp2_with fail
          go_roundw
          case rel => exact ⟨_, _, E, rfl, rfl, HFE.out.2.1, HI6⟩
          case measure => have := HFE.out.2; simp [intOf]; omega
        · rw [decide_eq_false heq] at hsb
          have HO : Hid (oneL (s.data.toList.drop F) = none) := by
            show _ = _
            rw [← HT.out]
            unfold oneL
            have := HTL.out
            rw [if_neg (by omega), HLN.out, if_neg]
            rintro ⟨_, _, _, q4⟩
            exact heq (by rw [q4, hr])
          clear hF8 hF1 hF2 hF7 hm hn hLs hE hE7 hN8 hr hrl hbad heq
          go_wp2_with fail
          go_quiet (fail)
          go_wp2_with fail
          refine (HFR.out _).mono ?_
          rintro e w5 ⟨rfl, ho5⟩
          have HI5 := Lib.hid ((RScanIn.keep HI.out ((Only.refl [] _).drewN _)).keep ho5)
          clear ho5
          go_wp2_with fail
          go_ret2
          exact HI5.out.out HO.out
    · have HO : Hid (oneL (s.data.toList.drop F) = none) := oneL_short (by rw [List.length_drop]; omega)
      have h8 : ¬ ((F8 : Int) < (s.size : Int)) := by omega
      go_wp2
      go_ret2
      exact HI.out.out HO.out
end Go.Proofs.Ytngcdkbnljoodaa
