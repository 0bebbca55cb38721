/- The law's awake, of halves, walks: it returns true. No conditions beyond the variables that strconv reads. HalvesMake's walk. No conditions beyond the variables that strconv reads, and the bounds typed. The variables that strconv reads, as the program's text lays them; a row of strings among a law's arguments. No conditions beyond those typed. -/
import Derived.Test.YtngcdkbnljoodaaGreatDoorMrgD
import Derived.Test.YtngcdkbnljoodaaGreatDoorRows
import Derived.Test.YtngcdkbnljoodaaGreatDoorMrgB
import Derived.WalkKit
import Derived.ProofKit
import Derived.OpenShut
import Derived.ShutString
import Derived.ChangeOld
import Derived.Below
import Derived.SizedLaws
import Derived.SliceStrings
import Derived.Carry
import Derived.Lib.SmallJoins
import Derived.Lib.LaidTab
import Derived.LaidSub
import Derived.LaidLaws
import Derived.LaidMore
import Derived.ChangeVars
import Derived.JoinedAt
namespace Go.Proofs.YtngcdkbnljoodaaGreatDoor
set_option linter.unusedVariables false
set_option linter.unusedSimpArgs false
open Go.RowKit Go.Proofs.YtngcdkbnljoodaaGreatDoorW.PrintWords

theorem lit1A (w : World) (t : TypeId) (d : ByteArray) {p b : Nat} (hp : p < w.heap.size) (hb : b < w.heap.size) : RowA (w.alloc (.cells #[.string d] t)) (.slice (some ⟨w.heap.size, 0, none⟩) 1 1) [d.data.toList] p b :=
  ⟨_, 1, rfl, fun k x h => by
    match k, h with
    | 0, h =>
      simp at h
      subst h
      refine ⟨_, rfl, by show w.heap.size ≠ p; omega, by show w.heap.size ≠ b; omega, ?_⟩
      simp [Addr.add]
      rfl⟩
theorem lit2A (w : World) (t : TypeId) (d c : ByteArray) {p b : Nat} (hp : p < w.heap.size) (hb : b < w.heap.size) : RowA (w.alloc (.cells #[.string d, .string c] t)) (.slice (some ⟨w.heap.size, 0, none⟩) 2 2) [d.data.toList, c.data.toList] p b :=
  ⟨_, 2, rfl, fun k x h => by
    match k, h with
    | 0, h =>
      simp at h
      subst h
      refine ⟨_, rfl, by show w.heap.size ≠ p; omega, by show w.heap.size ≠ b; omega, ?_⟩
      simp [Addr.add]
      rfl
    | 1, h =>
      simp at h
      subst h
      refine ⟨_, rfl, by show w.heap.size ≠ p; omega, by show w.heap.size ≠ b; omega, ?_⟩
      simp [Addr.add]
      rfl⟩
theorem lit1S (w : World) (t : TypeId) (d : ByteArray) : RowS (w.alloc (.cells #[.string d] t)) (.slice (some ⟨w.heap.size, 0, none⟩) 1 1) [d.data.toList] :=
  ⟨_, 1, rfl, fun k x h => ⟨_, rfl, by
    match k, h with
    | 0, h => simp at h; subst h; simp [Addr.add]; rfl⟩⟩
theorem ageB_len (a : Int) (h : 0 ≤ a ∧ a < 10) : (ageB a).length = 3 := by
  obtain ⟨u, rfl⟩ := Int.eq_ofNat_of_zero_le h.1
  unfold ageB Lib.itoa
  rw [if_neg (by omega), show (u : Int).toNat = u from rfl, Lib.decDigits, dif_pos (show u < 10 by omega)]
  rfl
theorem HOld.snapS {w : World} {B : HB} {p b : Nat} {H : HT} {N : Nat} (h : HOld w B p b H N) {l : List Bs} (hl : H.sn = l) : Calls Tryz.prog 24 #[.pointer (some ⟨B.h, 0, none⟩)] w fun e w' => ∃ a cap, e = .returned (.slice a l.length cap) ∧ RowS w' (.slice a l.length cap) l ∧ Only [] w w' := by
  subst hl
  refine h.snapshot.mono ?_
  rintro e w' ⟨v, rfl, hown, ho⟩
  have hr := RowS.of_own hown
  obtain ⟨a, cap, rfl, _⟩ := hr
  exact ⟨a, cap, rfl, RowS.of_own hown, ho⟩
theorem HOld.tailS {w : World} {B : HB} {p b : Nat} {H : HT} {N : Nat} (h : HOld w B p b H N) {l : List Bs} (hl : H.tl = l) : Calls Tryz.prog 25 #[.pointer (some ⟨B.h, 0, none⟩)] w fun e w' => ∃ a cap, e = .returned (.slice a l.length cap) ∧ RowS w' (.slice a l.length cap) l ∧ Only [] w w' := by
  subst hl
  refine h.tail.mono ?_
  rintro e w' ⟨v, rfl, hown, ho⟩
  have hr := RowS.of_own hown
  obtain ⟨a, cap, rfl, _⟩ := hr
  exact ⟨a, cap, rfl, RowS.of_own hown, ho⟩
theorem append_down {H : HT} (h : H.down = true) (r : Bs) (hr : r.length ≤ 398) : H.append r = (H, 16) := by
  unfold HT.append
  rw [if_neg (by omega), if_pos h]
set_option maxHeartbeats 8000000 in
set_option maxRecDepth 100000 in
theorem hawake_of (w : World) (hv : Vars w) : Calls Tryz.prog 4 #[] w fun e w' => e = .returned (.bool true) ∧ Only [] w w' := by
  have HV := Lib.hid hv
  have HN : Hid (Calls Tryz.prog 5 #[.int .i64 20] w fun e w' => e = .returned (.tuple #[.pointer (some ⟨w.heap.size + 1, 0, none⟩), .int .i64 0]) ∧ StoreIs w' (w.heap.size + 1) w.heap.size (St.new 20) ∧ Only [] w w') := new_up 20 (by decide) (by decide) w
  obtain ⟨p, hp⟩ : ∃ p, p = w.heap.size + 1 := ⟨_, rfl⟩
  obtain ⟨b, hb⟩ : ∃ b, b = w.heap.size := ⟨_, rfl⟩
  rw [← hp, ← hb] at HN
  have HPB : Hid (w.heap.size ≤ p ∧ w.heap.size ≤ b) := by show _ ∧ _; omega
  clear hp hb hv
  go_enter Tryz.func4, Tryz.ntmps4
  go_wp2_with fail
  refine (HN.out).mono ?_
  rintro e w1 ⟨rfl, hs1, ho1⟩
  have HS1 := Lib.hid hs1
  have HO1 := Lib.hid ho1
  clear hs1 ho1 HN
  go_wp2_with fail
  refine (up_new (F := []) HS1.out HO1.out HPB.out (by simp) (by decide) (by decide) HV.out).mono ?_
  rintro e w2 ⟨hh, rfl, _, _, H2, hl2, f1, f2, f3, f4, f5⟩
  have HL2 := Lib.hid hl2
  have HF2 : Hid (H2.J.s.n = 20 ∧ H2.age = 1 ∧ H2.sn = [] ∧ H2.tl = [] ∧ H2.J.fin = 23) := ⟨f1, f2, f3, f4, f5⟩
  clear hl2 f1 f2 f3 f4 f5 HS1 HO1
  go_wp2_with fail
  refine (open_null w2).mono ?_
  rintro e w9 ⟨rfl, hw9⟩
  subst w9
  go_wp2_with fail
  refine (HL2.out.i.room).mono ?_
  rintro e w3 ⟨rfl, ho3⟩
  rw [HF2.out.1, HF2.out.2.2.2.2, show (32 * ((20 / 2 : Nat) : Int) - ((23 : Nat) : Int)) = 297 from rfl]
  have HL3 := Lib.hid (HL2.out.keep ho3)
  clear ho3 HL2
  go_wp2_with fail
  refine (up_append_ok HL3.out { data := #[97] } (by decide) (by rw [HF2.out.1, HF2.out.2.2.2.2]; decide)).mono ?_
  rintro e w4 ⟨rfl, _, H4, hl4, f1, f2, f3, f4, f5⟩
  have HL4 := Lib.hid hl4
  have HF4 : Hid (H4.J.s.n = 20 ∧ H4.age = 1 ∧ H4.J.fin = 34) := ⟨f1.trans HF2.out.1, f2.trans HF2.out.2.1, by rw [f5, HF2.out.2.2.2.2]; rfl⟩
  clear hl4 f1 f2 f3 f4 f5 HL3 HF2
  go_wp2_with fail
  refine (up_append_ok HL4.out { data := #[98] } (by decide) (by rw [HF4.out.1, HF4.out.2.2]; decide)).mono ?_
  rintro e w5 ⟨rfl, _, H5, hl5, f1, f2, f3, f4, f5⟩
  have HL5 := Lib.hid hl5
  have HF5 : Hid (H5.J.s.n = 20 ∧ H5.age = 1) := ⟨f1.trans HF4.out.1, f2.trans HF4.out.2.1⟩
  clear hl5 f1 f2 f3 f4 f5 HL4 HF4
  go_wp2_with fail
  have HLA := Lib.hid (HL5.out.keep ((Only.refl [] w5).alloc (.cells #[.string { data := #[97, 98] }] 9)))
  refine (up_compact_ok HLA.out HV.out (sn := [[97, 98]]) (lit1A w5 9 { data := #[97, 98] } HL5.out.i.lt.1 HL5.out.i.lt.2.1) (lit1A w5 9 { data := #[97, 98] } HL5.out.i.lt.2.2 HL5.out.i.lt.2.2) (by decide) (by simp) (by decide) (by rw [HF5.out.2]; decide) (by rw [HF5.out.1, HF5.out.2, frames_recs, ageB_len _ (by decide)]; decide)).mono ?_
  rintro e w6 ⟨rfl, _, H6, hl6, f1, f2, f3, f4, f5⟩
  have HL6 := Lib.hid hl6
  have HF6 : Hid (H6.J.s.n = 20 ∧ H6.age = 2 ∧ H6.sn = [[97, 98]] ∧ H6.tl = [] ∧ H6.J.fin = 35) := ⟨f1.trans HF5.out.1, by rw [f2, HF5.out.2]; rfl, f3, f4, by rw [f5, HF5.out.2, frames_recs, ageB_len _ (by decide)]; decide⟩
  clear hl6 f1 f2 f3 f4 f5 HL5 HF5 HLA
  go_wp2_with fail
  refine (up_append_ok HL6.out { data := #[99] } (by decide) (by rw [HF6.out.1, HF6.out.2.2.2.2]; decide)).mono ?_
  rintro e w7 ⟨rfl, _, H7, hl7, f1, f2, f3, f4, f5⟩
  have HL7 := Lib.hid hl7
  have HF7 : Hid (H7.J.s.n = 20 ∧ H7.age = 2 ∧ H7.sn = [[97, 98]] ∧ H7.tl = [[99]]) := ⟨f1.trans HF6.out.1, f2.trans HF6.out.2.1, f3.trans HF6.out.2.2.1, by rw [f4, HF6.out.2.2.2.1]; rfl⟩
  clear hl7 f1 f2 f3 f4 f5 HL6 HF6
  obtain ⟨Bh, rfl, hold⟩ := HL7.out.i.old HF7.out.1
  have HD7 := Lib.hid hold
  clear hold
  go_wp2_with fail
  refine (up_open (F := Bh.own) HL7.out.i.st HL7.out.i.on HPB.out HD7.out.apart HL7.out.f.tells HL7.out.f.up HL7.out.nf HV.out).mono ?_
  rintro e w8 ⟨kk, rfl, _, hS, K, hl8, f1, f2, f3, f4⟩
  have HL8 := Lib.hid hl8
  have HF8 : Hid (K.J.s.n = 20 ∧ K.age = 2 ∧ K.sn = [[97, 98]] ∧ K.tl = [[99]]) := ⟨f1.trans HF7.out.1, f2.trans HF7.out.2.1, f3.trans HF7.out.2.2.1, f4.trans HF7.out.2.2.2⟩
  have HD8 := Lib.hid (HD7.out.turn hS (fun x h => h) HL8.out.i.st HF8.out.1)
  clear hS hl8 f1 f2 f3 f4 HL7 HD7
  go_wp2_with fail
  refine (HL8.out.i.fuse 2 9 (by decide)).mono ?_
  rintro e w9 ⟨rfl, hi9, hS⟩
  have HK := Lib.hid (HL8.out.f.setFuse 2 9 (by decide))
  have HFU : Hid ((K.J.s.setFuse 2 9).fuse = 2) := rfl
  have HF9 : Hid ((K.J.s.setFuse 2 9).n = 20 ∧ K.age = 2 ∧ K.sn = [[97, 98]] ∧ K.tl = [[99]]) := HF8.out
  have HI9 := Lib.hid hi9
  have HD9 := Lib.hid (HD8.out.turn hS (fun x h => h) hi9.st HF9.out.1)
  clear hS hi9 HL8 HF8 HD8
  obtain ⟨Q, hQ⟩ : ∃ Q : HT, Q = { K with J := { K.J with s := K.J.s.setFuse 2 9 } } := ⟨_, rfl⟩
  have HFQ : Hid (Q.J.s.n = 20 ∧ Q.age = 2 ∧ Q.sn = [[97, 98]] ∧ Q.tl = [[99]] ∧ Q.J.s.fuse = 2) := by rw [hQ]; exact ⟨HF9.out.1, HF9.out.2.1, HF9.out.2.2.1, HF9.out.2.2.2, HFU.out⟩
  rw [← hQ] at HI9 HK
  clear hQ HFU HF9
  go_wp2_with fail
  have HIA := Lib.hid (HI9.out.keep ((Only.refl [] w9).alloc (.cells #[.string { data := #[97, 98, 99] }, .string { data := #[100] }] 9)))
  have HDA := Lib.hid (HD9.out.keep ((Only.refl [] w9).alloc (.cells #[.string { data := #[97, 98, 99] }, .string { data := #[100] }] 9)))
  obtain ⟨t1, t2, t3, t4, t5, t6, t7⟩ := compact_torn HK.out [[97, 98, 99], [100]] (by decide) (by rw [HFQ.out.2.1]; decide) (by rw [HFQ.out.1, HFQ.out.2.1, frames_recs, ageB_len _ (by decide)]; decide) (by rw [HFQ.out.2.2.2.2]; decide) (by rw [HFQ.out.2.2.2.2, HFQ.out.2.1]; decide)
  refine (HIA.out.compact HV.out (sn := [[97, 98, 99], [100]]) (lit2A w9 9 { data := #[97, 98, 99] } { data := #[100] } HI9.out.lt.1 HI9.out.lt.2.1) (lit2A w9 9 { data := #[97, 98, 99] } { data := #[100] } HI9.out.lt.2.2 HI9.out.lt.2.2) (by decide) (by simp)).mono ?_
  rintro e w10 ⟨rfl, hi10, hS⟩
  rw [t1]
  have HD10 := Lib.hid (HDA.out.turn hS (fun x h => h) hi10.st (t7.trans HFQ.out.1))
  have HI10 := Lib.hid hi10
  have HFR : Hid ((Q.compact [[97, 98, 99], [100]]).1.J.s.n = 20 ∧ (Q.compact [[97, 98, 99], [100]]).1.sn = [[97, 98]] ∧ (Q.compact [[97, 98, 99], [100]]).1.tl = [[99]] ∧ (Q.compact [[97, 98, 99], [100]]).1.down = true) := ⟨t7.trans HFQ.out.1, t5.trans HFQ.out.2.2.1, t6.trans HFQ.out.2.2.2.1, t2⟩
  have HT10 := Lib.hid t3
  rw [HFQ.out.2.1, HFQ.out.2.2.1, HFQ.out.2.2.2.1] at HT10
  clear t1 t2 t3 t4 t5 t6 t7 hS hi10 HIA HDA HI9 HD9 HFQ HK
  generalize (Q.compact [[97, 98, 99], [100]]).1 = R at *
  go_wp2_with fail
  refine (HI10.out.append { data := #[101] } (by decide)).mono ?_
  rw [append_down HFR.out.2.2.2 _ (by decide)]
  rintro e w11 ⟨rfl, hi11, hS⟩
  have HD11 := Lib.hid (HD10.out.turn hS (fun x h => h) hi11.st HFR.out.1)
  have HI11 := Lib.hid hi11
  clear hS hi11 HI10 HD10
  go_wp2_with fail
  refine (HI11.out.up).mono ?_
  rintro e w12 ⟨rfl, hi12, hS⟩
  have HD12 := Lib.hid (HD11.out.turn hS (fun x h => h) hi12.st HFR.out.1)
  obtain ⟨Bk, rfl, hold⟩ := hi12.old HFR.out.1
  have HE12 := Lib.hid hold
  have HI12 := Lib.hid hi12
  clear hS hi12 hold HI11 HD11
  go_wp2_with fail
  refine (up_open (F := Bh.own ++ Bk.own) HI12.out.st HI12.out.on HPB.out (fun x hx => by rcases List.mem_append.1 hx with h | h; exact HD12.out.apart x h; exact HE12.out.apart x h) HT10.out.up rfl rfl HV.out).mono ?_
  rintro e w13 ⟨ll, rfl, _, hS, L, hl13, f1, f2, f3, f4⟩
  have HL13 := Lib.hid hl13
  have HFL : Hid (L.age = 2 ∧ L.tl = [[99]]) := ⟨f2, f4⟩
  have HD13 := Lib.hid (HD12.out.turn hS (fun x h => by simp [h]) hl13.i.st (f1.trans HFR.out.1))
  have HE13 := Lib.hid (HE12.out.turn hS (fun x h => by simp [h]) hl13.i.st (f1.trans HFR.out.1))
  clear hS hl13 f1 f2 f3 f4 HI12 HD12 HE12 HT10
  have HOA : Hid (Only [] w w13) := HL13.out.i.on
  obtain ⟨Bl, rfl, hold⟩ := HL13.out.i.old rfl
  have HG13 := Lib.hid hold
  clear hold HL13
  go_wp2_with fail
  refine (HD13.out.age).mono ?_
  rintro e w14 ⟨rfl, ho⟩
  rw [HF7.out.2.1]
  have HD14 := Lib.hid (HD13.out.keep ho)
  have HE14 := Lib.hid (HE13.out.keep ho)
  have HG14 := Lib.hid (HG13.out.keep ho)
  have HO14 : Hid (Only [] w w14) := HOA.out.tr ho
  clear ho HD13 HE13 HG13
  go_wp2_with fail
  refine (HD14.out.snapS HF7.out.2.2.1).mono ?_
  rintro e w15 ⟨ra, rc, rfl, hr, ho⟩
  have HD15 := Lib.hid (HD14.out.keep ho)
  have HE15 := Lib.hid (HE14.out.keep ho)
  have HG15 := Lib.hid (HG14.out.keep ho)
  have HO15 : Hid (Only [] w w15) := HO14.out.tr ho
  clear ho HD14 HE14 HG14
  have hO : Only [] w15 (w15.alloc (.cells #[.string { data := #[97, 98] }] 9)) := (Only.refl [] w15).alloc _
  go_wp2_with fail
  refine (Same_eq (l := [[97, 98]]) (hr.keep hO) (lit1S w15 9 { data := #[97, 98] }) (by decide)).mono ?_
  rintro e w16 ⟨rfl, ho⟩
  have ho2 := hO.tr ho
  clear hr hO ho
  have HD16 := Lib.hid (HD15.out.keep ho2)
  have HE16 := Lib.hid (HE15.out.keep ho2)
  have HG16 := Lib.hid (HG15.out.keep ho2)
  have HO16 : Hid (Only [] w w16) := HO15.out.tr ho2
  clear ho2 HD15 HE15 HG15
  go_wp2_with fail
  refine (HD16.out.tailS HF7.out.2.2.2).mono ?_
  rintro e w17 ⟨ra, rc, rfl, hr, ho⟩
  have HD17 := Lib.hid (HD16.out.keep ho)
  have HE17 := Lib.hid (HE16.out.keep ho)
  have HG17 := Lib.hid (HG16.out.keep ho)
  have HO17 : Hid (Only [] w w17) := HO16.out.tr ho
  clear ho HD16 HE16 HG16
  have hO : Only [] w17 (w17.alloc (.cells #[.string { data := #[99] }] 9)) := (Only.refl [] w17).alloc _
  go_wp2_with fail
  refine (Same_eq (l := [[99]]) (hr.keep hO) (lit1S w17 9 { data := #[99] }) (by decide)).mono ?_
  rintro e w18 ⟨rfl, ho⟩
  have ho2 := hO.tr ho
  clear hr hO ho
  have HD18 := Lib.hid (HD17.out.keep ho2)
  have HE18 := Lib.hid (HE17.out.keep ho2)
  have HG18 := Lib.hid (HG17.out.keep ho2)
  have HO18 : Hid (Only [] w w18) := HO17.out.tr ho2
  clear ho2 HD17 HE17 HG17
  go_wp2_with fail
  refine (HE18.out.snapS HFR.out.2.1).mono ?_
  rintro e w19 ⟨ra, rc, rfl, hr, ho⟩
  have HD19 := Lib.hid (HD18.out.keep ho)
  have HE19 := Lib.hid (HE18.out.keep ho)
  have HG19 := Lib.hid (HG18.out.keep ho)
  have HO19 : Hid (Only [] w w19) := HO18.out.tr ho
  clear ho HD18 HE18 HG18
  have hO : Only [] w19 (w19.alloc (.cells #[.string { data := #[97, 98] }] 9)) := (Only.refl [] w19).alloc _
  go_wp2_with fail
  refine (Same_eq (l := [[97, 98]]) (hr.keep hO) (lit1S w19 9 { data := #[97, 98] }) (by decide)).mono ?_
  rintro e w20 ⟨rfl, ho⟩
  have ho2 := hO.tr ho
  clear hr hO ho
  have HD20 := Lib.hid (HD19.out.keep ho2)
  have HE20 := Lib.hid (HE19.out.keep ho2)
  have HG20 := Lib.hid (HG19.out.keep ho2)
  have HO20 : Hid (Only [] w w20) := HO19.out.tr ho2
  clear ho2 HD19 HE19 HG19
  go_wp2_with fail
  refine (HE20.out.tailS HFR.out.2.2.1).mono ?_
  rintro e w21 ⟨ra, rc, rfl, hr, ho⟩
  have HD21 := Lib.hid (HD20.out.keep ho)
  have HE21 := Lib.hid (HE20.out.keep ho)
  have HG21 := Lib.hid (HG20.out.keep ho)
  have HO21 : Hid (Only [] w w21) := HO20.out.tr ho
  clear ho HD20 HE20 HG20
  have hO : Only [] w21 (w21.alloc (.cells #[.string { data := #[99] }] 9)) := (Only.refl [] w21).alloc _
  go_wp2_with fail
  refine (Same_eq (l := [[99]]) (hr.keep hO) (lit1S w21 9 { data := #[99] }) (by decide)).mono ?_
  rintro e w22 ⟨rfl, ho⟩
  have ho2 := hO.tr ho
  clear hr hO ho
  have HD22 := Lib.hid (HD21.out.keep ho2)
  have HE22 := Lib.hid (HE21.out.keep ho2)
  have HG22 := Lib.hid (HG21.out.keep ho2)
  have HO22 : Hid (Only [] w w22) := HO21.out.tr ho2
  clear ho2 HD21 HE21 HG21
  go_wp2_with fail
  refine (HG22.out.age).mono ?_
  rintro e w23 ⟨rfl, ho⟩
  rw [HFL.out.1]
  have HD23 := Lib.hid (HD22.out.keep ho)
  have HE23 := Lib.hid (HE22.out.keep ho)
  have HG23 := Lib.hid (HG22.out.keep ho)
  have HO23 : Hid (Only [] w w23) := HO22.out.tr ho
  clear ho HD22 HE22 HG22
  go_wp2_with fail
  refine (HG23.out.tailS HFL.out.2).mono ?_
  rintro e w24 ⟨ra, rc, rfl, hr, ho⟩
  have HD24 := Lib.hid (HD23.out.keep ho)
  have HE24 := Lib.hid (HE23.out.keep ho)
  have HG24 := Lib.hid (HG23.out.keep ho)
  have HO24 : Hid (Only [] w w24) := HO23.out.tr ho
  clear ho HD23 HE23 HG23
  have hO : Only [] w24 (w24.alloc (.cells #[.string { data := #[99] }] 9)) := (Only.refl [] w24).alloc _
  go_wp2_with fail
  refine (Same_eq (l := [[99]]) (hr.keep hO) (lit1S w24 9 { data := #[99] }) (by decide)).mono ?_
  rintro e w25 ⟨rfl, ho⟩
  have ho2 := hO.tr ho
  clear hr hO ho
  have HD25 := Lib.hid (HD24.out.keep ho2)
  have HE25 := Lib.hid (HE24.out.keep ho2)
  have HG25 := Lib.hid (HG24.out.keep ho2)
  have HO25 : Hid (Only [] w w25) := HO24.out.tr ho2
  clear ho2 HD24 HE24 HG24
  go_wp2_with fail
  go_ret
  exact ⟨rfl, HO25.out⟩
end Go.Proofs.YtngcdkbnljoodaaGreatDoor

namespace Go.Proofs.YtngcdkbnljoodaaGreatDoor
set_option linter.unusedVariables false
set_option linter.unusedSimpArgs false
open Go.RowKit Go.Proofs.YtngcdkbnljoodaaGreatDoorW.PrintWords

theorem wideL_take {l : List Bs} {k : Nat} {y : Bs} (h : l[k]? = some y) : wideL (l.take (k + 1)) = (wideL (l.take k) || decide (398 < y.length)) := by
  rw [List.take_add_one, h]
  simp [wideL]
theorem row_argA {w0 w : World} {v : Value} {l : List Bs} (hv : RowS w0 v l) (ho : Only [] w0 w) {p b : Nat} (hp : w0.heap.size ≤ p) (hb : w0.heap.size ≤ b) : RowA w v l p b := by
  obtain ⟨a, cap, rfl, hc⟩ := hv
  refine ⟨a, cap, rfl, fun k x hx => ?_⟩
  obtain ⟨ad, rfl, hq⟩ := hc k x hx
  have hlt : (ad.add k).block < w0.heap.size := by
    rcases Nat.lt_or_ge (ad.add k).block w0.heap.size with h | h
    · exact h
    · unfold World.cell? at hq
      rw [Array.getElem?_eq_none h] at hq
      simp at hq
  have h2 := hlt
  rw [add_blk] at h2
  exact ⟨ad, rfl, by omega, by omega, (World.cell?_of_block (ho.block _ hlt (by simp))).trans hq⟩
theorem own_away2 {w w' : World} {base n : Nat} {v : Value} {xs : List Value} {F : List Nat} (h : w.ownsRow base 9 1 v n xs) (ho : Away2 F w w') (hF : ∀ g, v.ownBlock = some g → g ∈ F) : w'.ownsRow base 9 1 v n xs := by
  obtain ⟨S, h1, h2⟩ := ho
  exact own_keep h h1 (fun g hg => h2 g (hF g hg))
def MkIn (w0 wq : World) (p b hh n : Nat) : Prop := ∃ H : HT, HLive w0 wq p b hh [] H ∧ H.J.s.n = n ∧ H.age = 1 ∧ H.sn = []
end Go.Proofs.YtngcdkbnljoodaaGreatDoor

namespace Go.Proofs.YtngcdkbnljoodaaGreatDoor
open Go.Joins Go.ChangeShapes Go.WideShapes Go.RowKit Go.Deep
set_option linter.unusedVariables false
theorem own : ownKnob Tryz.prog.godebug = none := by kernel_rfl
theorem laidOut : laidOutB Tryz.prog = true := by kernel_rfl
def laidL : List (String × DataW Unit) := [("math/bits.deBruijn32tab", Rows.laid_math_bits_deBruijn32tab), ("math/bits.deBruijn64tab", Rows.laid_math_bits_deBruijn64tab), ("internal/strconv.uint64pow10", Rows.laid_internal_strconv_uint64pow10), ("strconv.ErrRange", Rows.laid_strconv_ErrRange), ("strconv.ErrSyntax", Rows.laid_strconv_ErrSyntax)]
theorem iface_var {P : Program} {W : World} {name nm : String} {d : DataW Unit} {g : Nat} {t : TypeId} {ms : Array (String × TypeId)} {rest : List (String × DataW Unit)} (hg : P.globalNamed name = some g) (hty : (P.globals[g]?).map (·.type) = some t) (hi : P.underlying t = some (.interface ms))
    (h : laidMet P ((name, .iface nm d) :: rest) W) : ∃ tp p, W.var? P name = some #[.iface tp p] := by
  obtain ⟨ps, ⟨g', t', cs, fuel, p, q, hg', ht', hvar, hd, _, _⟩, _⟩ := h
  obtain rfl := Option.some.inj (hg.symm.trans hg')
  obtain rfl := Option.some.inj (hty.symm.trans ht')
  obtain ⟨_, u, v, hcs, _, _⟩ := iface_of_trod hi hd
  refine ⟨u, v, hvar.trans ?_⟩
  have : cs = #[.iface u v] := by
    cases cs
    simp at hcs
    rw [hcs]
  rw [this]
theorem vars_of_laid {W : World} (h : laidMet Tryz.prog laidL W) : Vars W := by
  refine ⟨?_, ?_, ?_⟩
  · have h2 := h.filter (fun x => x.1 == "internal/strconv.uint64pow10")
    have e : laidL.filter (fun x => x.1 == "internal/strconv.uint64pow10") = ("internal/strconv.uint64pow10", Lib.tabData .u64 Lib.pow10Tab) :: [] := by kernel_rfl
    rw [e] at h2
    exact Lib.tabIs_of_head (g := 0) (t := 154) (e := 135) (n := 20) (by kernel_rfl) (by kernel_rfl) (by kernel_rfl) (by kernel_rfl) (by kernel_rfl) (by kernel_rfl) h2
  · have h2 := h.filter (fun x => x.1 == "strconv.ErrSyntax")
    have e : laidL.filter (fun x => x.1 == "strconv.ErrSyntax") = ("strconv.ErrSyntax", Rows.laid_strconv_ErrSyntax) :: [] := by kernel_rfl
    rw [e] at h2
    exact iface_var (g := 1) (t := 95) (by kernel_rfl) (by kernel_rfl) Tryz.underlying95 h2
  · have h2 := h.filter (fun x => x.1 == "strconv.ErrRange")
    have e : laidL.filter (fun x => x.1 == "strconv.ErrRange") = ("strconv.ErrRange", Rows.laid_strconv_ErrRange) :: [] := by kernel_rfl
    rw [e] at h2
    exact iface_var (g := 2) (t := 95) (by kernel_rfl) (by kernel_rfl) Tryz.underlying95 h2
theorem door_met (os : Os) (args : Array Value) : laidMet Tryz.prog laidL ((World.doorLaid Tryz.prog 600 os).forCall (fun _ _ => 0) ⟨#[], args, []⟩).memory :=
  laidMet_of_run' 8 (by kernel_rfl) (by kernel_rfl)
end Go.Proofs.YtngcdkbnljoodaaGreatDoor

