/- able (6): the least container is read and written. -/
import Derived.Test.YtalhoahkbmeeeaaSerialize
import Derived.Test.YtalhoahkbmeeeaaParse
import Derived.Test.YtalhoahkbmeeeaaLeast
import Derived.Test.YtalhoahkbmeeeaaSameCn
namespace Go.Proofs.Ytalhoahkbmeeeaa
open Go.RowKit

theorem Own3.rcn {w : World} {lo B2 B3 B4 : Nat} {vt vc vs vd : Value} {us ws : List Value} {c : Cn} {l : List Int} {z : Int} (h : Own3 w lo B2 B3 B4 vt vc vs us ws c) (hd : w.ownsRow B4 5 1 vd l.length (byteVals l)) :
    RCn w (.agg #[vt, vc, vs, vd, .int .i64 z]) { c with data := l, size := z } :=
  ⟨vt, vc, vs, vd, rfl, RC.ofOwn h.ts, h.codes.rp, h.subs.rp, RC.ofOwn hd⟩

theorem below_box {w W : World} {B : Nat} (h : Below B w W) (hB : B ≤ W.heap.size) (o : Obj) : Below B w (W.alloc o) := h.alloc hB o

theorem same_self {w : World} {v v' : Value} {c : Cn} (h : RCn w v c) (h' : RCn w v' c) (hm : c.small 1000000000) :
    Calls Try.prog 11 #[v, v'] w fun e w' => e = .returned (.bool true) ∧ Below w.heap.size w w' :=
  (same_any h h' hm).mono fun e w' ⟨he, hb⟩ => ⟨by rw [he, decide_eq_true rfl], hb⟩
theorem sameBytes_self {w : World} {v v' : Value} {l : List Int} (h : RB w v l) (h' : RB w v' l) (hmax : l.length ≤ maxLen) :
    Calls Try.prog 13 #[v, v'] w fun e w' => e = .returned (.bool true) ∧ ∃ n, w' = w.drewN n :=
  (sameBytes_any h h' hmax).mono fun e w' ⟨he, hb⟩ => ⟨by rw [he, decide_eq_true rfl], hb⟩

set_option maxHeartbeats 3200000 in
theorem able_any (w : World) : Calls Try.prog 6 #[] w fun e w' => e = .returned (.bool true) ∧ Below w.heap.size w w' := by
  have hl := rc_bytes w [239, 0, 1, 1, 0, 4, 2, 0, 1, 0, 1, 255, 0, 0, 0, 0, 128, 0, 0, 0] (by show 20 ≤ 1000; decide)
  have hB0 : Below w.heap.size w (w.alloc (.cells (byteVals [239, 0, 1, 1, 0, 4, 2, 0, 1, 0, 1, 255, 0, 0, 0, 0, 128, 0, 0, 0]).toArray 5)) := (Below.refl _ _).alloc (Nat.le_refl _) _
  have HL := Lib.hid hl
  have HB0 := Lib.hid hB0
  clear hl hB0
  go_enter Try.func6, Try.ntmps6
  go_wp2_with fail
  refine (own_any (l := [239, 0, 1, 1, 0, 4, 2, 0, 1, 0, 1, 255, 0, 0, 0, 0, 128, 0, 0, 0]) HL.out (by show 20 ≤ 1000000000; decide)).mono ?_
  rintro _ w1 ⟨a1, c1, rfl, ho1, hb1⟩
  have HL1 := Lib.hid (HL.out.below hb1 (Nat.le_refl _))
  have HB1 := Lib.hid (HB0.out.trans (hb1.mono HB0.out.size))
  have hr1 : RB w1 (.slice a1 20 c1) (ser leastCn) := by rw [least_ser]; exact RC.ofOwn ho1
  have HR1 := Lib.hid hr1
  clear ho1 hb1 hr1
  go_wp2_with fail
  refine (parse_ok (c := leastCn) (op := false) HR1.out least_may (least_small _ (by decide)) (.inr rfl)).mono ?_
  rintro _ w2 ⟨at_, ct, vc, us, vs, ws, ad, cd, B2, B3, B4, rfl, hown, hd, hb2⟩
  obtain ⟨ac, cc, rfl⟩ := ownsRow_slice hown.codes.row
  obtain ⟨as_, cs, rfl⟩ := ownsRow_slice hown.subs.row
  have HC2 := Lib.hid (show RCn w2 (.agg #[.slice at_ leastCn.ts.length ct, .slice ac leastCn.codes.length cc, .slice as_ leastCn.subs.length cs, .slice ad leastCn.data.length cd, .int .i64 leastCn.size]) leastCn from hown.rcn (z := leastCn.size) hd)
  have HB2 := Lib.hid (HB1.out.trans (hb2.mono HB1.out.size))
  have HL2 := Lib.hid (HL1.out.below hb2 (Nat.le_refl _))
  clear hown hd hb2
  go_wp2_with fail
  obtain ⟨X, hX⟩ : ∃ X, X = (w2.alloc (.cells #[.slice at_ leastCn.ts.length ct, .slice ac leastCn.codes.length cc, .slice as_ leastCn.subs.length cs, .slice ad leastCn.data.length cd, .int .i64 leastCn.size] 26)).alloc (.cells #[.int .i64 0, .slice none 0 0, .int .i64 0, .int .i64 0] 45) := ⟨_, rfl⟩
  rw [← hX]
  have hbX : Below w2.heap.size w2 X := by rw [hX]; exact ((Below.refl _ _).alloc (Nat.le_refl _) _).alloc (by simp) _
  have e0 : X.heap[w2.heap.size]? = some (.cells #[.slice at_ leastCn.ts.length ct, .slice ac leastCn.codes.length cc, .slice as_ leastCn.subs.length cs, .slice ad leastCn.data.length cd, .int .i64 leastCn.size] 26) := by rw [hX]; exact heap_alloc (heap_alloc_new _ _)
  have e1 : X.heap[w2.heap.size + 1]? = some (.cells #[.int .i64 0, .slice none 0 0, .int .i64 0, .int .i64 0] 45) := by
    rw [hX]
    have := heap_alloc_new (w2.alloc (.cells #[.slice at_ leastCn.ts.length ct, .slice ac leastCn.codes.length cc, .slice as_ leastCn.subs.length cs, .slice ad leastCn.data.length cd, .int .i64 leastCn.size] 26)) (.cells #[.int .i64 0, .slice none 0 0, .int .i64 0, .int .i64 0] 45)
    simpa using this
  have k0 : X.drew.cell? ⟨w2.heap.size + 1, 0, none⟩ = some (.int .i64 0) ∧ X.drew.cell? ⟨w2.heap.size, 0, none⟩ = some (.slice at_ leastCn.ts.length ct) ∧ X.drew.cell? ⟨w2.heap.size, 1, none⟩ = some (.slice ac leastCn.codes.length cc) ∧ X.drew.cell? ⟨w2.heap.size, 2, none⟩ = some (.slice as_ leastCn.subs.length cs) ∧ X.drew.cell? ⟨w2.heap.size, 3, none⟩ = some (.slice ad leastCn.data.length cd) ∧ X.drew.cell? ⟨w2.heap.size, 4, none⟩ = some (.int .i64 leastCn.size) := ⟨by show X.cell? _ = _; rw [cell_of_row _ _ _ _ _ _ e1]; rfl, by show X.cell? _ = _; rw [cell_of_row _ _ _ _ _ _ e0]; rfl, by show X.cell? _ = _; rw [cell_of_row _ _ _ _ _ _ e0]; rfl, by show X.cell? _ = _; rw [cell_of_row _ _ _ _ _ _ e0]; rfl, by show X.cell? _ = _; rw [cell_of_row _ _ _ _ _ _ e0]; rfl, by show X.cell? _ = _; rw [cell_of_row _ _ _ _ _ _ e0]; rfl⟩
  have HCX := Lib.hid (HC2.out.below hbX (Nat.le_refl _))
  have HBX := Lib.hid (HB2.out.trans (hbX.mono HB2.out.size))
  have HLX := Lib.hid (HL2.out.below hbX (Nat.le_refl _))
  clear hX hbX e0 e1
  have kS := k0
  go_region_held3 (fun w' => w'.cell? ⟨w2.heap.size + 1, 0, none⟩ = some (.int .i64 0) ∧ w'.cell? ⟨w2.heap.size, 0, none⟩ = some (.slice at_ leastCn.ts.length ct) ∧ w'.cell? ⟨w2.heap.size, 1, none⟩ = some (.slice ac leastCn.codes.length cc) ∧ w'.cell? ⟨w2.heap.size, 2, none⟩ = some (.slice as_ leastCn.subs.length cs) ∧ w'.cell? ⟨w2.heap.size, 3, none⟩ = some (.slice ad leastCn.data.length cd) ∧ w'.cell? ⟨w2.heap.size, 4, none⟩ = some (.int .i64 leastCn.size))
    (first | with_reducible exact kS | fail)
    (first
      | (go_at_call 20
         refine (least_any _).mono ?_
         rintro _ w3 ⟨v3, rfl, hc3, hb3⟩
         have kS : w3.cell? ⟨w2.heap.size + 1, 0, none⟩ = some (.int .i64 0) ∧ w3.cell? ⟨w2.heap.size, 0, none⟩ = some (.slice at_ leastCn.ts.length ct) ∧ w3.cell? ⟨w2.heap.size, 1, none⟩ = some (.slice ac leastCn.codes.length cc) ∧ w3.cell? ⟨w2.heap.size, 2, none⟩ = some (.slice as_ leastCn.subs.length cs) ∧ w3.cell? ⟨w2.heap.size, 3, none⟩ = some (.slice ad leastCn.data.length cd) ∧ w3.cell? ⟨w2.heap.size, 4, none⟩ = some (.int .i64 leastCn.size) := ⟨cell_below hb3 (Nat.le_refl _) kS.1, cell_below hb3 (Nat.le_refl _) kS.2.1, cell_below hb3 (Nat.le_refl _) kS.2.2.1, cell_below hb3 (Nat.le_refl _) kS.2.2.2.1, cell_below hb3 (Nat.le_refl _) kS.2.2.2.2.1, cell_below hb3 (Nat.le_refl _) kS.2.2.2.2.2⟩
         have HC3 := Lib.hid hc3
         have HB3 := Lib.hid hb3
         clear hc3 hb3)
      | (go_at_call 11
         refine (same_self ((HCX.out.below ((Below.refl _ _).drew) (Nat.le_refl _)).below HB3.out (Nat.le_refl _)) HC3.out (least_small _ (by decide))).mono ?_
         rintro _ w4 ⟨rfl, hb4⟩
         have kS : w4.cell? ⟨w2.heap.size + 1, 0, none⟩ = some (.int .i64 0) ∧ w4.cell? ⟨w2.heap.size, 0, none⟩ = some (.slice at_ leastCn.ts.length ct) ∧ w4.cell? ⟨w2.heap.size, 1, none⟩ = some (.slice ac leastCn.codes.length cc) ∧ w4.cell? ⟨w2.heap.size, 2, none⟩ = some (.slice as_ leastCn.subs.length cs) ∧ w4.cell? ⟨w2.heap.size, 3, none⟩ = some (.slice ad leastCn.data.length cd) ∧ w4.cell? ⟨w2.heap.size, 4, none⟩ = some (.int .i64 leastCn.size) := ⟨cell_below hb4 (Nat.le_refl _) kS.1, cell_below hb4 (Nat.le_refl _) kS.2.1, cell_below hb4 (Nat.le_refl _) kS.2.2.1, cell_below hb4 (Nat.le_refl _) kS.2.2.2.1, cell_below hb4 (Nat.le_refl _) kS.2.2.2.2.1, cell_below hb4 (Nat.le_refl _) kS.2.2.2.2.2⟩
         have HB4 := Lib.hid hb4
         clear hb4))
  have HLR := Lib.hid ((HLX.out.below (((Below.refl _ _).drew).trans HB3.out) (Nat.le_refl _)).below HB4.out (Nat.le_refl _))
  have HBR := Lib.hid ((HBX.out.drew.trans (HB3.out.mono HBX.out.size)).trans (HB4.out.mono (by have := HBX.out.size; have := HB3.out.size; simp at this; omega)))
  clear kS k0
  go_wp2_with fail
  refine (least_any _).mono ?_
  rintro _ w5 ⟨v5, rfl, hc5, hb5⟩
  have HL5 := Lib.hid (HLR.out.below hb5 (Nat.le_refl _))
  have HB5 := Lib.hid (HBR.out.trans (hb5.mono HBR.out.size))
  have HC5 := Lib.hid hc5
  clear hc5 hb5
  go_wp2_with fail
  refine (serialize_any HC5.out least_may (least_small _ (by decide))).mono ?_
  rintro _ w6 ⟨a6, c6, rfl, ho6, hb6⟩
  have HL6 := Lib.hid (HL5.out.below hb6 (Nat.le_refl _))
  have HB6 := Lib.hid (HB5.out.trans (hb6.mono HB5.out.size))
  have HO6 := Lib.hid ho6.rb
  clear ho6 hb6
  go_wp2_with fail
  refine (sameBytes_self (l := ser leastCn) HO6.out (by rw [least_ser]; exact HL6.out) (by rw [least_ser]; decide)).mono ?_
  rintro _ w7 ⟨rfl, n7, rfl⟩
  go_wp2_with fail
  go_ret
  exact ⟨rfl, HB6.out.trans (drewN_below _ _ _)⟩

end Go.Proofs.Ytalhoahkbmeeeaa
