/- ContainerLaid (3): true, whatever is handed in. -/
import Derived.Test.YtalhoahkbmeeeaaAble
namespace Go.Proofs.Ytalhoahkbmeeeaa
open Go.RowKit

/-- a container with more data, declared as long as they are then -/
def laid (c : Cn) (l : List Int) : Cn := { c with data := c.data ++ l, size := (c.data.length : Int) + l.length }

theorem laid_may {c : Cn} {l : List Int} (hm : c.may) (h : (c.data.length : Int) + l.length ≤ 65535) : (laid c l).may :=
  ⟨hm.codes1, hm.codes2, hm.types, hm.subs, by simp [laid], h, hm.code1, hm.code2, hm.in1, hm.in2, hm.out1, hm.out2, hm.most1, hm.most2, hm.sub1, hm.sub2, hm.first1, hm.first2⟩
theorem laid_small {c : Cn} {l : List Int} {N : Nat} (hm : c.small N) (h : (c.data.length : Int) + l.length ≤ 65535) (hN : 65535 ≤ N) : (laid c l).small N :=
  ⟨hm.ts, hm.codes, hm.subs, by simp [laid]; omega, hm.code, hm.sub⟩
theorem laid_laid (c : Cn) (l m : List Int) : laid (laid c l) m = laid c (l ++ m) := by
  simp [laid]
  omega
theorem small_mono {c : Cn} {N M : Nat} (h : c.small N) (hN : N ≤ M) : c.small M :=
  ⟨Nat.le_trans h.ts hN, Nat.le_trans h.codes hN, Nat.le_trans h.subs hN, Nat.le_trans h.data hN, fun i hi => Nat.le_trans (h.code i hi) hN, fun i hi => Nat.le_trans (h.sub i hi) hN⟩

/-- Lay's answer reads as the container with more data -/
theorem lay_reads {w : World} {c : Cn} {l : List Int} {e : Ending} {w' : World} (h : LayPost w c l e w') : ∃ at_ ct ac cc as_ cs ad cd, e = .returned (.tuple #[.agg #[.slice at_ c.ts.length ct, .slice ac c.codes.length cc, .slice as_ c.subs.length cs, .slice ad (c.data.length + l.length) cd, .int .i64 ((c.data.length : Int) + l.length)], .int .i64 0]) ∧
    RCn w' (.agg #[.slice at_ c.ts.length ct, .slice ac c.codes.length cc, .slice as_ c.subs.length cs, .slice ad (c.data.length + l.length) cd, .int .i64 ((c.data.length : Int) + l.length)]) (laid c l) ∧ Below w.heap.size w w' := by
  obtain ⟨a2, c2, a3, c3, us, a4, c4, ws, a6, c6, B2, B3, B4, rfl, ho, hd, hb⟩ := h
  refine ⟨a2, c2, a3, c3, a4, c4, a6, c6, rfl, ?_, hb⟩
  have := ho.rcn (l := c.data ++ l) (z := (c.data.length : Int) + l.length) (vd := .slice a6 (c.data.length + l.length) c6) (by rw [List.length_append]; exact hd)
  exact this

theorem zero_rcn (w : World) : RCn w zeroCn ⟨[], [], [], [], 0⟩ :=
  ⟨_, _, _, _, rfl, ⟨rfl, none, 0, rfl, Nat.le_refl _, .inl rfl⟩, ⟨[], ⟨rfl, none, 0, rfl, Nat.le_refl _, .inl rfl⟩, fun _ hi => absurd hi (Nat.not_lt_zero _)⟩, ⟨[], ⟨rfl, none, 0, rfl, Nat.le_refl _, .inl rfl⟩, fun _ hi => absurd hi (Nat.not_lt_zero _)⟩, ⟨rfl, none, 0, rfl, Nat.le_refl _, .inl rfl⟩⟩

set_option maxRecDepth 100000 in
set_option maxHeartbeats 6400000 in
theorem laid_any {w : World} {v v1 v2 : Value} {c : Cn} {l1 l2 : List Int} (h : RCn w v c) (h1 : RB w v1 l1) (h2 : RB w v2 l2) (hsm : c.small 1048576) (hl1 : l1.length ≤ 1048576) (hl2 : l2.length ≤ 1048576) :
    Calls Try.prog 3 #[v, v1, v2] w fun e w' => e = .returned (.bool true) ∧ Below w.heap.size w w' := by
  obtain ⟨at_, ct, ac, cc, as_, cs, ad, cd, rfl, g1, g2, g3, g4⟩ := h.open
  obtain ⟨a1, p1, rfl⟩ := RC.slice h1
  obtain ⟨a2, p2, rfl⟩ := RC.slice h2
  obtain ⟨W1, hW1⟩ : ∃ W1, W1 = w.alloc (.cells #[.slice at_ c.ts.length ct, .slice ac c.codes.length cc, .slice as_ c.subs.length cs, .slice ad c.data.length cd, .int .i64 c.size] 26) := ⟨_, rfl⟩
  have hB : Below w.heap.size w W1 := by rw [hW1]; exact boxed1 w _
  have hz1 : W1.heap.size = w.heap.size + 1 := by rw [hW1]; simp
  have e0 : W1.heap[w.heap.size]? = some (.cells #[.slice at_ c.ts.length ct, .slice ac c.codes.length cc, .slice as_ c.subs.length cs, .slice ad c.data.length cd, .int .i64 c.size] 26) := by rw [hW1]; exact heap_alloc_new _ _
  have HC := Lib.hid (fun W (hW : Below w.heap.size w W) => h.below hW (Nat.le_refl _))
  have HD := Lib.hid (fun W (hW : Below w.heap.size w W) => g4.below hW (Nat.le_refl _))
  have H1 := Lib.hid (fun W (hW : Below w.heap.size w W) => h1.below hW (Nat.le_refl _))
  have H2 := Lib.hid (fun W (hW : Below w.heap.size w W) => h2.below hW (Nat.le_refl _))
  have HB := Lib.hid hB
  have HZ := Lib.hid hz1
  have HK := Lib.hid (fun W (hW : Below W1.heap.size W1 W) => (⟨by rw [cell_of_row _ _ _ _ _ _ ((hW.block _ (heap_lt e0)).trans e0)]; rfl, by rw [cell_of_row _ _ _ _ _ _ ((hW.block _ (heap_lt e0)).trans e0)]; rfl, by rw [cell_of_row _ _ _ _ _ _ ((hW.block _ (heap_lt e0)).trans e0)]; rfl, by rw [cell_of_row _ _ _ _ _ _ ((hW.block _ (heap_lt e0)).trans e0)]; rfl, by rw [cell_of_row _ _ _ _ _ _ ((hW.block _ (heap_lt e0)).trans e0)]; rfl⟩ :
    W.cell? ⟨w.heap.size, 0, none⟩ = some (.slice at_ c.ts.length ct) ∧ W.cell? ⟨w.heap.size, 1, none⟩ = some (.slice ac c.codes.length cc) ∧ W.cell? ⟨w.heap.size, 2, none⟩ = some (.slice as_ c.subs.length cs) ∧ W.cell? ⟨w.heap.size, 3, none⟩ = some (.slice ad c.data.length cd) ∧ W.cell? ⟨w.heap.size, 4, none⟩ = some (.int .i64 c.size)))
  have hw1 := weight_any (HC.out W1 hB) (small_mono hsm (by decide))
  have HW := Lib.hid hw1
  have HSM := Lib.hid hsm
  have b1 : (l1.length : Int) ≤ 2097152 := by omega
  have b2 : (l2.length : Int) ≤ 2097152 := by omega
  have b3 : (c.data.length : Int) ≤ 1048576 := by have := hsm.data; omega
  clear h g1 g2 g3 g4 h1 h2 hB hsm hw1 hz1 e0
  go_enter Try.func3, Try.ntmps3
  go_wp2_with fail
  rw [← hW1]
  clear hW1
  refine HW.out.mono ?_
  rintro _ w2 ⟨n, rfl, -, hb2⟩
  have HB2 := Lib.hid hb2
  clear hb2 HW
  by_cases hn : n ≤ 2097152
  · go_wp2_with fail
    refine (able_any _).mono ?_
    rintro _ w3 ⟨rfl, hb3⟩
    have HB3 := Lib.hid (HB2.out.trans (hb3.mono HB2.out.size))
    clear hb3
    have hk := HK.out w3 HB3.out
    go_wp2_with fail
    refine (may_any (HC.out w3 (HB.out.trans (HB3.out.mono HB.out.size))) (small_mono HSM.out (by decide))).mono ?_
    rintro _ w4 ⟨m, rfl, hm, hb4⟩
    have HB4 := Lib.hid (HB3.out.trans (hb4.mono HB3.out.size))
    have HM := Lib.hid hm
    clear hb4 hk hm
    cases m with
    | false =>
      go_wp2_with fail
      go_ret
      exact ⟨rfl, HB.out.trans (HB4.out.mono HB.out.size)⟩
    | true =>
      have hm := HM.out rfl
      have hsz := hm.size
      have hsd := hm.data
      have HMM := Lib.hid hm
      clear HM hm
      have hk := HK.out w4 HB4.out
      go_wp2_with fail
      refine (twin_any (HC.out w4 (HB.out.trans (HB4.out.mono HB.out.size))) (small_mono HSM.out (by decide))).mono ?_
      rintro _ w5 ⟨v5, rfl, hc5, hb5⟩
      have HB5 := Lib.hid (HB4.out.trans (hb5.mono HB4.out.size))
      have HC5 := Lib.hid hc5
      clear hc5 hb5 hk
      go_wp2_with fail
      refine (own_any (H1.out w5 (HB.out.trans (HB5.out.mono HB.out.size))) (by omega)).mono ?_
      rintro _ w6 ⟨a6, p6, rfl, ho6, hb6⟩
      have HB6 := Lib.hid (HB5.out.trans (hb6.mono HB5.out.size))
      have HC6 := Lib.hid (HC5.out.below hb6 (Nat.le_refl _))
      have HO6 := Lib.hid (RC.ofOwn ho6 : RB w6 (.slice a6 l1.length p6) l1)
      clear ho6 hb6
      go_wp2_with fail
      by_cases hA : ((c.data.length : Int) + l1.length) < c.size
      · have hx := lay_cut HC6.out HMM.out HO6.out (by omega) hA
        unfold zeroCn at hx
        have HX := Lib.hid hx
        clear hx
        refine HX.out.mono ?_
        rintro _ w7 ⟨rfl, hb7⟩
        have HB7 := Lib.hid (HB6.out.trans (hb7.mono HB6.out.size))
        have hk := HK.out w7 HB7.out
        have hlt : w.heap.size < w7.heap.size := by have := HB7.out.size; have := HZ.out; omega
        clear hb7 HX
        go_wp2_with fail
        refine (same_self (zero_rcn _) (zero_rcn _) ⟨Nat.zero_le _, Nat.zero_le _, Nat.zero_le _, Nat.zero_le _, fun _ hi => absurd hi (Nat.not_lt_zero _), fun _ hi => absurd hi (Nat.not_lt_zero _)⟩).mono ?_
        rintro _ w8 ⟨rfl, hb8⟩
        have HB8 := Lib.hid (HB7.out.trans ((below_box (Below.refl _ _) (Nat.le_refl _) _).trans (hb8.mono (by simp)) |>.mono HB7.out.size))
        clear hb8
        go_wp2_with fail
        go_ret
        exact ⟨rfl, (HB.out.trans (HB8.out.mono HB.out.size))⟩

      · by_cases hL : 65535 < ((c.data.length : Int) + l1.length)
        · have hx := lay_long HC6.out HMM.out HO6.out (by omega) (by omega) hL
          unfold zeroCn at hx
          have HX := Lib.hid hx
          clear hx
          refine HX.out.mono ?_
          rintro _ w7 ⟨rfl, hb7⟩
          have HB7 := Lib.hid (HB6.out.trans (hb7.mono HB6.out.size))
          have hk := HK.out w7 HB7.out
          have hlt : w.heap.size < w7.heap.size := by have := HB7.out.size; have := HZ.out; omega
          clear hb7 HX
          go_wp2_with fail
          refine (same_self (zero_rcn _) (zero_rcn _) ⟨Nat.zero_le _, Nat.zero_le _, Nat.zero_le _, Nat.zero_le _, fun _ hi => absurd hi (Nat.not_lt_zero _), fun _ hi => absurd hi (Nat.not_lt_zero _)⟩).mono ?_
          rintro _ w8 ⟨rfl, hb8⟩
          have HB8 := Lib.hid (HB7.out.trans ((below_box (Below.refl _ _) (Nat.le_refl _) _).trans (hb8.mono (by simp)) |>.mono HB7.out.size))
          clear hb8
          go_wp2_with fail
          go_ret
          exact ⟨rfl, (HB.out.trans (HB8.out.mono HB.out.size))⟩

        · have hlay := lay_ok HC6.out HMM.out HO6.out (small_mono HSM.out (by decide)) (by omega) (by omega)
          have HX := Lib.hid hlay
          clear hlay
          refine HX.out.mono ?_
          intro e w7 hpost
          obtain ⟨a7, q7, b7, r7, d7, s7, f7, t7, rfl, hr7, hb7⟩ := lay_reads hpost
          clear hpost
          have HB7 := Lib.hid (HB6.out.trans (hb7.mono HB6.out.size))
          have HR7 := Lib.hid hr7
          have hk := HK.out w7 HB7.out
          have hlt : w.heap.size < w7.heap.size := by have := HB7.out.size; have := HZ.out; omega
          clear hb7 hr7 HX
          go_wp2_with fail
          obtain ⟨X8, hX8⟩ : ∃ X, X = w7.alloc (.cells #[.slice a7 c.ts.length q7, .slice b7 c.codes.length r7, .slice d7 c.subs.length s7, .slice f7 (c.data.length + l1.length) t7, .int .i64 ((c.data.length : Int) + l1.length)] 26) := ⟨_, rfl⟩
          rw [← hX8]
          have HBX8 := Lib.hid (show Below w7.heap.size w7 X8 by rw [hX8]; exact (Below.refl _ _).alloc (Nat.le_refl _) _)
          have HE8 := Lib.hid (show X8.heap[w7.heap.size]? = some (.cells #[.slice a7 c.ts.length q7, .slice b7 c.codes.length r7, .slice d7 c.subs.length s7, .slice f7 (c.data.length + l1.length) t7, .int .i64 ((c.data.length : Int) + l1.length)] 26) by rw [hX8]; exact heap_alloc_new _ _)
          have HB8 := Lib.hid (HB7.out.trans (HBX8.out.mono HB7.out.size))
          clear hX8 hk
          refine (twin_any (HC.out X8 (HB.out.trans (HB8.out.mono HB.out.size))) (small_mono HSM.out (by decide))).mono ?_
          rintro _ w9 ⟨v9, rfl, hc9, hb9⟩
          obtain ⟨a9, q9, b9, r9, d9, s9, f9, t9, rfl, u1, u2, u3, u4⟩ := hc9.open
          have HB9 := Lib.hid (HB8.out.trans (hb9.mono HB8.out.size))
          have HU1 := Lib.hid u1
          have HU2 := Lib.hid u2
          have HU3 := Lib.hid u3
          have HB89 := Lib.hid hb9
          have hk := HK.out w9 HB9.out
          have hlt9 : w.heap.size < w9.heap.size := by have := HB9.out.size; have := HZ.out; omega
          have h79 : w7.heap.size < w9.heap.size := by have := heap_lt HE8.out; have := hb9.size; omega
          clear hc9 hb9 u1 u2 u3 u4
          go_wp2_with fail
          obtain ⟨X10, hX10⟩ : ∃ X, X = w9.alloc (.cells #[.slice a9 c.ts.length q9, .slice b9 c.codes.length r9, .slice d9 c.subs.length s9, .slice f9 c.data.length t9, .int .i64 c.size] 26) := ⟨_, rfl⟩
          rw [← hX10]
          have HBX10 := Lib.hid (show Below w9.heap.size w9 X10 by rw [hX10]; exact (Below.refl _ _).alloc (Nat.le_refl _) _)
          have HE10 := Lib.hid (show X10.heap[w9.heap.size]? = some (.cells #[.slice a9 c.ts.length q9, .slice b9 c.codes.length r9, .slice d9 c.subs.length s9, .slice f9 c.data.length t9, .int .i64 c.size] 26) by rw [hX10]; exact heap_alloc_new _ _)
          have HB10 := Lib.hid (HB9.out.trans (HBX10.out.mono HB9.out.size))
          clear hX10 hk
          refine (own_any (HD.out X10 (HB.out.trans (HB10.out.mono HB.out.size))) (by have := HSM.out.data; omega)).mono ?_
          rintro _ w11 ⟨a11, p11, rfl, ho11, hb11⟩
          have HB11 := Lib.hid (HB10.out.trans (hb11.mono HB10.out.size))
          obtain ⟨i0, hi, hz, hsz', hby⟩ := info_parts info5
          have HBX11 := Lib.hid hb11
          have hs11 := hb11.size
          have hlx : w9.heap.size < X10.heap.size := heap_lt HE10.out
          have HLX := Lib.hid hlx
          clear hb11
          go_wp2_with (first
            | (refine wpList_append_rc rfl (.tmp 73) (.tmp 74) 24 rfl X10.heap.size 5 i0 (.int .u8 0) 1 1 Try.underlying24 hi hz hsz' hby rfl (by decide) _ _ _ rfl ho11 _ l1.length _ rfl (H1.out w11 (HB.out.trans (HB11.out.mono HB.out.size))) (byteVals_one _) (by unfold maxLen; omega) (by omega) hs11 ?_
               intro v12 w12 ho12 hg12 _
               obtain ⟨a12, c12, hv12⟩ := ownsRow_slice ho12
               subst hv12
               have hb12 : Below X10.heap.size w11 w12 := grownBy_below hg12 hs11 (fun k hk => (ho11.lt k hk).1)
               have HBX12 := Lib.hid (HBX11.out.trans hb12)
               have HO12 := Lib.hid (OB.mk ho12)
               clear ho12 hg12
               have hk := HK.out w12 (HB10.out.trans (HBX12.out.mono HB10.out.size))
               have ex : w12.heap[w9.heap.size]? = _ := (HBX12.out.block _ HLX.out).trans HE10.out
               have ed : w12.heap[w7.heap.size]? = _ := (HBX12.out.block _ (by have := HLX.out; omega)).trans ((HBX10.out.block _ h79).trans ((HB89.out.block _ (heap_lt HE8.out)).trans HE8.out))
               have HEX := Lib.hid ex
               have HED := Lib.hid ed
               have x0 : w12.cell? ⟨w9.heap.size, 0, none⟩ = some (.slice a9 c.ts.length q9) := by rw [cell_of_row _ _ _ _ _ _ ex]; rfl
               have x1 : w12.cell? ⟨w9.heap.size, 1, none⟩ = some (.slice b9 c.codes.length r9) := by rw [cell_of_row _ _ _ _ _ _ ex]; rfl
               have x2 : w12.cell? ⟨w9.heap.size, 2, none⟩ = some (.slice d9 c.subs.length s9) := by rw [cell_of_row _ _ _ _ _ _ ex]; rfl
               have x3 : w12.cell? ⟨w9.heap.size, 3, none⟩ = some (.slice f9 c.data.length t9) := by rw [cell_of_row _ _ _ _ _ _ ex]; rfl
               have x4 : w12.cell? ⟨w9.heap.size, 4, none⟩ = some (.int .i64 c.size) := by rw [cell_of_row _ _ _ _ _ _ ex]; rfl
               have y0 : w12.cell? ⟨w7.heap.size, 0, none⟩ = some (.slice a7 c.ts.length q7) := by rw [cell_of_row _ _ _ _ _ _ ed]; rfl
               have y1 : w12.cell? ⟨w7.heap.size, 1, none⟩ = some (.slice b7 c.codes.length r7) := by rw [cell_of_row _ _ _ _ _ _ ed]; rfl
               have y2 : w12.cell? ⟨w7.heap.size, 2, none⟩ = some (.slice d7 c.subs.length s7) := by rw [cell_of_row _ _ _ _ _ _ ed]; rfl
               have y3 : w12.cell? ⟨w7.heap.size, 3, none⟩ = some (.slice f7 (c.data.length + l1.length) t7) := by rw [cell_of_row _ _ _ _ _ _ ed]; rfl
               have y4 : w12.cell? ⟨w7.heap.size, 4, none⟩ = some (.int .i64 ((c.data.length : Int) + l1.length)) := by rw [cell_of_row _ _ _ _ _ _ ed]; rfl
               have xf : ∀ j, w12.frozen? ⟨w9.heap.size, j, none⟩ = false := fun j => frozen_of_row _ _ _ _ _ ex
               have hne : ¬ w7.heap.size = w9.heap.size := by omega
               have hne' : ¬ w9.heap.size = w7.heap.size := by omega
               have hne3 : ¬ w.heap.size = w9.heap.size := by omega
               have hne3' : ¬ w9.heap.size = w.heap.size := by omega
               clear ex ed))
          obtain ⟨X13, hX13⟩ : ∃ X, X = (w12.setCell ⟨w9.heap.size, 3, none⟩ (.slice a12 (c.data.length + l1.length) c12)).setCell ⟨w9.heap.size, 4, none⟩ (.int .i64 ((c.data.length : Int) + l1.length)) := ⟨_, rfl⟩
          rw [← hX13]
          have HBX13 := Lib.hid (show Below w9.heap.size w9 X13 by rw [hX13]; exact (((HBX10.out.trans (HBX12.out.mono (Nat.le_of_lt HLX.out))).setCell (p := ⟨w9.heap.size, 3, none⟩) (Nat.le_refl _) _).setCell (p := ⟨w9.heap.size, 4, none⟩) (Nat.le_refl _) _))
          have HB13 := Lib.hid (HB9.out.trans (HBX13.out.mono HB9.out.size))
          have HE13 := Lib.hid (show X13.heap[w7.heap.size]? = some (.cells #[.slice a7 c.ts.length q7, .slice b7 c.codes.length r7, .slice d7 c.subs.length s7, .slice f7 (c.data.length + l1.length) t7, .int .i64 ((c.data.length : Int) + l1.length)] 26) by rw [hX13]; exact heap_set_ne (heap_set_ne HED.out (by omega) _) (by omega) _)
          have HR13 := Lib.hid (HR7.out.below (HBX8.out.trans ((HB89.out.mono (Nat.le_of_lt (heap_lt HE8.out))).trans (HBX13.out.mono (Nat.le_of_lt h79)))) (Nat.le_refl _))
          have hrb : RB X13 (.slice a12 (c.data.length + l1.length) c12) (c.data ++ l1) := by
            rw [hX13]
            exact RC.ofOwn (ownsRow_setCell_ne (a := ⟨w9.heap.size, 4, none⟩) (ownsRow_setCell_ne (a := ⟨w9.heap.size, 3, none⟩) HO12.out (not_of_ge HO12.out (g := w9.heap.size) HLX.out) _) (not_of_ge HO12.out (g := w9.heap.size) HLX.out) _)
          have HW13 := Lib.hid (show RCn X13 (.agg #[.slice a9 c.ts.length q9, .slice b9 c.codes.length r9, .slice d9 c.subs.length s9, .slice a12 (c.data.length + l1.length) c12, .int .i64 ((c.data.length : Int) + l1.length)]) (laid c l1) from ⟨_, _, _, _, rfl, HU1.out.below HBX13.out (Nat.le_refl _), HU2.out.below HBX13.out (Nat.le_refl _), HU3.out.below HBX13.out (Nat.le_refl _), hrb⟩)
          clear hX13 hrb hk x0 x1 x2 x3 x4 y0 y1 y2 y3 y4 xf
          refine (same_self HR13.out HW13.out (small_mono (laid_small HSM.out (by omega) (by decide)) (by decide))).mono ?_
          rintro _ w14 ⟨rfl, hb14⟩
          have HB14 := Lib.hid (HB13.out.trans (hb14.mono HB13.out.size))
          have HE14 := Lib.hid ((hb14.block _ (heap_lt HE13.out)).trans HE13.out)
          have HR14 := Lib.hid (HR13.out.below hb14 (Nat.le_refl _))
          have y0 : w14.cell? ⟨w7.heap.size, 0, none⟩ = some (.slice a7 c.ts.length q7) := by rw [cell_of_row _ _ _ _ _ _ (HE14.out)]; rfl
          have y1 : w14.cell? ⟨w7.heap.size, 1, none⟩ = some (.slice b7 c.codes.length r7) := by rw [cell_of_row _ _ _ _ _ _ (HE14.out)]; rfl
          have y2 : w14.cell? ⟨w7.heap.size, 2, none⟩ = some (.slice d7 c.subs.length s7) := by rw [cell_of_row _ _ _ _ _ _ (HE14.out)]; rfl
          have y3 : w14.cell? ⟨w7.heap.size, 3, none⟩ = some (.slice f7 (c.data.length + l1.length) t7) := by rw [cell_of_row _ _ _ _ _ _ (HE14.out)]; rfl
          have y4 : w14.cell? ⟨w7.heap.size, 4, none⟩ = some (.int .i64 ((c.data.length : Int) + l1.length)) := by rw [cell_of_row _ _ _ _ _ _ (HE14.out)]; rfl
          clear hb14
          go_wp2_with fail
          refine (twin_any HR14.out (small_mono (laid_small HSM.out (by omega) (by decide)) (by decide))).mono ?_
          rintro _ w15 ⟨v15, rfl, hc15, hb15⟩
          have HB15 := Lib.hid (HB14.out.trans (hb15.mono HB14.out.size))
          have HC15 := Lib.hid hc15
          clear hc15 hb15 y0 y1 y2 y3 y4
          go_wp2_with fail
          refine (own_any (H2.out w15 (HB.out.trans (HB15.out.mono HB.out.size))) (by omega)).mono ?_
          rintro _ w16 ⟨a16, p16, rfl, ho16, hb16⟩
          have HB16 := Lib.hid (HB15.out.trans (hb16.mono HB15.out.size))
          have HC16 := Lib.hid (HC15.out.below hb16 (Nat.le_refl _))
          have HO16 := Lib.hid (RC.ofOwn ho16 : RB w16 (.slice a16 l2.length p16) l2)
          clear ho16 hb16
          go_wp2_with fail
          have hmm := laid_may (l := l1) HMM.out (by omega)
          have HMM2 := Lib.hid hmm
          have hdl : ((laid c l1).data.length : Int) = (c.data.length : Int) + l1.length := by simp [laid]
          have HDL := Lib.hid hdl
          have HS2 := Lib.hid (laid_small (l := l1) HSM.out (by omega) (by decide))
          clear hmm hdl
          by_cases hT : 65535 < ((c.data.length : Int) + l1.length) + l2.length
          · have hx := lay_long HC16.out HMM2.out HO16.out (by omega) (by have := HDL.out; show ((c.data.length : Int) + l1.length) ≤ _; omega) (by have := HDL.out; omega)
            unfold zeroCn at hx
            have HX2 := Lib.hid hx
            clear hx
            refine HX2.out.mono ?_
            rintro _ w17 ⟨rfl, hb17⟩
            have HB17 := Lib.hid (HB16.out.trans (hb17.mono HB16.out.size))
            have hk := HK.out w17 HB17.out
            have hlt17 : w.heap.size < w17.heap.size := by have := HB17.out.size; have := HZ.out; omega
            clear hb17 HX2
            go_wp2_with fail
            obtain ⟨XQ, hXQ⟩ : ∃ X, X = w17.alloc (.cells #[.slice none 0 0, .slice none 0 0, .slice none 0 0, .slice none 0 0, .int .i64 0] 26) := ⟨_, rfl⟩
            rw [← hXQ]
            have HBQ := Lib.hid (show Below W1.heap.size W1 XQ by rw [hXQ]; exact HB17.out.alloc HB17.out.size _)
            clear hXQ hk
            refine (twin_any (HC.out XQ (HB.out.trans (HBQ.out.mono HB.out.size))) (small_mono HSM.out (by decide))).mono ?_
            rintro _ w18 ⟨v18, rfl, hc18, hb18⟩
            have HB18 := Lib.hid (HBQ.out.trans (hb18.mono HBQ.out.size))
            have HQ18 := Lib.hid hb18
            have HC18 := Lib.hid hc18
            clear hc18 hb18
            go_wp2_with fail
            refine (own_any (H1.out w18 (HB.out.trans (HB18.out.mono HB.out.size))) (by omega)).mono ?_
            rintro _ w19 ⟨a19, p19, rfl, ho19, hb19⟩
            have HB19 := Lib.hid (HB18.out.trans (hb19.mono HB18.out.size))
            have HC19 := Lib.hid (HC18.out.below hb19 (Nat.le_refl _))
            have HQ19 := Lib.hid hb19
            have hs19 := hb19.size
            clear hb19
            go_wp2_with (first
              | (refine wpList_append_rc rfl (.tmp 99) (.tmp 100) 24 rfl w18.heap.size 5 i0 (.int .u8 0) 1 1 Try.underlying24 hi hz hsz' hby rfl (by decide) _ _ _ rfl ho19 _ l2.length _ rfl (H2.out w19 (HB.out.trans (HB19.out.mono HB.out.size))) (byteVals_one _) (by unfold maxLen; omega) (by omega) hs19 ?_
                 intro v20 w20 ho20 hg20 _
                 have hb20 : Below w18.heap.size w19 w20 := grownBy_below hg20 hs19 (fun k hk => (ho19.lt k hk).1)
                 have HB20 := Lib.hid (HB18.out.trans ((HQ19.out.trans hb20).mono HB18.out.size))
                 have HQ20 := Lib.hid (HQ19.out.trans hb20)
                 have HO20 := Lib.hid (OB.mk ho20)
                 clear ho20 hg20 hb20))
            have HC20 := Lib.hid (HC18.out.below HQ20.out (Nat.le_refl _))
            have HRB := Lib.hid (HO20.out.rb)
            have hy := lay_long HC20.out HMM.out HRB.out (by rw [List.length_append]; omega) (by rw [List.length_append]; omega) (by rw [List.length_append]; omega)
            unfold zeroCn at hy
            have HY := Lib.hid hy
            clear hy
            refine HY.out.mono ?_
            rintro _ w21 ⟨rfl, hb21⟩
            have HB21 := Lib.hid (HB20.out.trans (hb21.mono HB20.out.size))
            clear hb21
            go_wp2_with fail
            go_ret
            exact ⟨rfl, HB.out.trans ((HB21.out.alloc HB21.out.size _).mono HB.out.size)⟩

          · have hx := lay_ok HC16.out HMM2.out HO16.out (small_mono HS2.out (by decide)) (by have := HDL.out; show ((c.data.length : Int) + l1.length) ≤ _; omega) (by have := HDL.out; omega)
            have HX2 := Lib.hid hx
            clear hx
            refine HX2.out.mono ?_
            intro e w17 hpost
            obtain ⟨a17, q17, b17, r17, d17, s17, f17, t17, rfl, hr17, hb17⟩ := lay_reads hpost
            clear hpost
            have HB17 := Lib.hid (HB16.out.trans (hb17.mono HB16.out.size))
            have HR17 := Lib.hid hr17
            have hk := HK.out w17 HB17.out
            have hlt17 : w.heap.size < w17.heap.size := by have := HB17.out.size; have := HZ.out; omega
            clear hb17 hr17 HX2
            go_wp2_with fail
            obtain ⟨XQ, hXQ⟩ : ∃ X, X = w17.alloc (.cells #[.slice a17 (laid c l1).ts.length q17, .slice b17 (laid c l1).codes.length r17, .slice d17 (laid c l1).subs.length s17, .slice f17 ((laid c l1).data.length + l2.length) t17, .int .i64 (((laid c l1).data.length : Int) + l2.length)] 26) := ⟨_, rfl⟩
            rw [← hXQ]
            have HBQ := Lib.hid (show Below W1.heap.size W1 XQ by rw [hXQ]; exact HB17.out.alloc HB17.out.size _)
            have HRQ := Lib.hid (show RCn XQ (.agg #[.slice a17 (laid c l1).ts.length q17, .slice b17 (laid c l1).codes.length r17, .slice d17 (laid c l1).subs.length s17, .slice f17 ((laid c l1).data.length + l2.length) t17, .int .i64 (((laid c l1).data.length : Int) + l2.length)]) (laid c (l1 ++ l2)) by rw [hXQ, ← laid_laid]; exact HR17.out.below ((Below.refl _ _).alloc (Nat.le_refl _) _) (Nat.le_refl _))
            have HEQ := Lib.hid (show XQ.heap[w17.heap.size]? = some (.cells #[.slice a17 (laid c l1).ts.length q17, .slice b17 (laid c l1).codes.length r17, .slice d17 (laid c l1).subs.length s17, .slice f17 ((laid c l1).data.length + l2.length) t17, .int .i64 (((laid c l1).data.length : Int) + l2.length)] 26) by rw [hXQ]; exact heap_alloc_new _ _)
            clear hXQ hk
            refine (twin_any (HC.out XQ (HB.out.trans (HBQ.out.mono HB.out.size))) (small_mono HSM.out (by decide))).mono ?_
            rintro _ w18 ⟨v18, rfl, hc18, hb18⟩
            have HB18 := Lib.hid (HBQ.out.trans (hb18.mono HBQ.out.size))
            have HQ18 := Lib.hid hb18
            have HC18 := Lib.hid hc18
            clear hc18 hb18
            go_wp2_with fail
            refine (own_any (H1.out w18 (HB.out.trans (HB18.out.mono HB.out.size))) (by omega)).mono ?_
            rintro _ w19 ⟨a19, p19, rfl, ho19, hb19⟩
            have HB19 := Lib.hid (HB18.out.trans (hb19.mono HB18.out.size))
            have HC19 := Lib.hid (HC18.out.below hb19 (Nat.le_refl _))
            have HQ19 := Lib.hid hb19
            have hs19 := hb19.size
            clear hb19
            go_wp2_with (first
              | (refine wpList_append_rc rfl (.tmp 99) (.tmp 100) 24 rfl w18.heap.size 5 i0 (.int .u8 0) 1 1 Try.underlying24 hi hz hsz' hby rfl (by decide) _ _ _ rfl ho19 _ l2.length _ rfl (H2.out w19 (HB.out.trans (HB19.out.mono HB.out.size))) (byteVals_one _) (by unfold maxLen; omega) (by omega) hs19 ?_
                 intro v20 w20 ho20 hg20 _
                 have hb20 : Below w18.heap.size w19 w20 := grownBy_below hg20 hs19 (fun k hk => (ho19.lt k hk).1)
                 have HB20 := Lib.hid (HB18.out.trans ((HQ19.out.trans hb20).mono HB18.out.size))
                 have HQ20 := Lib.hid (HQ19.out.trans hb20)
                 have HO20 := Lib.hid (OB.mk ho20)
                 clear ho20 hg20 hb20))
            have HC20 := Lib.hid (HC18.out.below HQ20.out (Nat.le_refl _))
            have HRB := Lib.hid (HO20.out.rb)
            obtain ⟨l12, h12⟩ : ∃ l, l = l1 ++ l2 := ⟨_, rfl⟩
            have hn1 : l12.length ≤ l1.length + l2.length := by rw [h12, List.length_append]; omega
            have hn2 : l1.length + l2.length ≤ l12.length := by rw [h12, List.length_append]; omega
            have HRB2 := Lib.hid (show RB w20 _ l12 by rw [h12]; exact HRB.out)
            have HRQ2 := Lib.hid (show RCn XQ _ (laid c l12) by rw [h12]; exact HRQ.out)
            clear HRB HRQ h12
            have HRQ := HRQ2
            have hy := lay_ok HC20.out HMM.out HRB2.out (small_mono HSM.out (by decide)) (by omega) (by omega)
            have HY := Lib.hid hy
            clear hy
            refine HY.out.mono ?_
            intro e w21 hpost
            obtain ⟨a21, q21, b21, r21, d21, s21, f21, t21, rfl, hr21, hb21⟩ := lay_reads hpost
            clear hpost
            have HB21 := Lib.hid (HB20.out.trans (hb21.mono HB20.out.size))
            have HQ21 := Lib.hid (HQ18.out.trans ((HQ20.out.mono HQ18.out.size).trans (hb21.mono (Nat.le_trans HQ18.out.size HQ20.out.size))))
            have HR21 := Lib.hid hr21
            have HE21 := Lib.hid ((HQ21.out.block _ (heap_lt HEQ.out)).trans HEQ.out)
            have h1721 : w17.heap.size < w21.heap.size := heap_lt HE21.out
            have hT' : ((c.data.length : Int) + l1.length) + l2.length ≤ 65535 := by omega
            have y0 : w21.cell? ⟨w17.heap.size, 0, none⟩ = some (.slice a17 (laid c l1).ts.length q17) := by rw [cell_of_row _ _ _ _ _ _ (HE21.out)]; rfl
            have y1 : w21.cell? ⟨w17.heap.size, 1, none⟩ = some (.slice b17 (laid c l1).codes.length r17) := by rw [cell_of_row _ _ _ _ _ _ (HE21.out)]; rfl
            have y2 : w21.cell? ⟨w17.heap.size, 2, none⟩ = some (.slice d17 (laid c l1).subs.length s17) := by rw [cell_of_row _ _ _ _ _ _ (HE21.out)]; rfl
            have y3 : w21.cell? ⟨w17.heap.size, 3, none⟩ = some (.slice f17 ((laid c l1).data.length + l2.length) t17) := by rw [cell_of_row _ _ _ _ _ _ (HE21.out)]; rfl
            have y4 : w21.cell? ⟨w17.heap.size, 4, none⟩ = some (.int .i64 (((laid c l1).data.length : Int) + l2.length)) := by rw [cell_of_row _ _ _ _ _ _ (HE21.out)]; rfl
            clear hb21 hr21
            go_wp2_with fail
            obtain ⟨X22, hX22⟩ : ∃ X, X = w21.alloc (.cells #[.slice a21 c.ts.length q21, .slice b21 c.codes.length r21, .slice d21 c.subs.length s21, .slice f21 (c.data.length + l12.length) t21, .int .i64 ((c.data.length : Int) + l12.length)] 26) := ⟨_, rfl⟩
            rw [← hX22]
            have HB22 := Lib.hid (show Below W1.heap.size W1 X22 by rw [hX22]; exact HB21.out.alloc HB21.out.size _)
            have HBY := Lib.hid (show Below w21.heap.size w21 X22 by rw [hX22]; exact (Below.refl _ _).alloc (Nat.le_refl _) _)
            have HY22 := Lib.hid (HR21.out.below HBY.out (Nat.le_refl _))
            have HX22 := Lib.hid (HRQ.out.below (HQ21.out.trans (HBY.out.mono HQ21.out.size)) (Nat.le_refl _))
            have HE22 := Lib.hid (show X22.heap[w21.heap.size]? = some (.cells #[.slice a21 c.ts.length q21, .slice b21 c.codes.length r21, .slice d21 c.subs.length s21, .slice f21 (c.data.length + l12.length) t21, .int .i64 ((c.data.length : Int) + l12.length)] 26) by rw [hX22]; exact heap_alloc_new _ _)
            have hmy := laid_may (l := l12) HMM.out (by omega)
            have HMY := Lib.hid hmy
            have HSY := Lib.hid (laid_small (l := l12) HSM.out (by omega) (by decide))
            clear hmy hX22 y0 y1 y2 y3 y4
            refine (same_self HX22.out HY22.out (small_mono HSY.out (by decide))).mono ?_
            rintro _ w23 ⟨rfl, hb23⟩
            have HB23 := Lib.hid (HB22.out.trans (hb23.mono HB22.out.size))
            have HE23 := Lib.hid ((hb23.block _ (heap_lt HE22.out)).trans HE22.out)
            have HY23 := Lib.hid (HY22.out.below hb23 (Nat.le_refl _))
            clear hb23
            have y0 : w23.cell? ⟨w21.heap.size, 0, none⟩ = some (.slice a21 c.ts.length q21) := by rw [cell_of_row _ _ _ _ _ _ (HE23.out)]; rfl
            have y1 : w23.cell? ⟨w21.heap.size, 1, none⟩ = some (.slice b21 c.codes.length r21) := by rw [cell_of_row _ _ _ _ _ _ (HE23.out)]; rfl
            have y2 : w23.cell? ⟨w21.heap.size, 2, none⟩ = some (.slice d21 c.subs.length s21) := by rw [cell_of_row _ _ _ _ _ _ (HE23.out)]; rfl
            have y3 : w23.cell? ⟨w21.heap.size, 3, none⟩ = some (.slice f21 (c.data.length + l12.length) t21) := by rw [cell_of_row _ _ _ _ _ _ (HE23.out)]; rfl
            have y4 : w23.cell? ⟨w21.heap.size, 4, none⟩ = some (.int .i64 ((c.data.length : Int) + l12.length)) := by rw [cell_of_row _ _ _ _ _ _ (HE23.out)]; rfl
            go_wp2_with fail
            clear y0 y1 y2 y3 y4
            refine (twin_any HY23.out (small_mono HSY.out (by decide))).mono ?_
            rintro _ w24 ⟨v24, rfl, hc24, hb24⟩
            have HB24 := Lib.hid (HB23.out.trans (hb24.mono HB23.out.size))
            have HC24 := Lib.hid hc24
            have HE24 := Lib.hid ((hb24.block _ (heap_lt HE23.out)).trans HE23.out)
            have HY24 := Lib.hid (HY23.out.below hb24 (Nat.le_refl _))
            clear hc24 hb24
            go_wp2_with fail
            refine (serialize_any HC24.out HMY.out (small_mono HSY.out (by decide))).mono ?_
            rintro _ w25 ⟨a25, c25, rfl, ho25, hb25⟩
            have HB25 := Lib.hid (HB24.out.trans (hb25.mono HB24.out.size))
            have HO25 := Lib.hid ho25.rb
            have HE25 := Lib.hid ((hb25.block _ (heap_lt HE24.out)).trans HE24.out)
            have HY25 := Lib.hid (HY24.out.below hb25 (Nat.le_refl _))
            clear ho25 hb25
            have y0 : w25.cell? ⟨w21.heap.size, 0, none⟩ = some (.slice a21 c.ts.length q21) := by rw [cell_of_row _ _ _ _ _ _ (HE25.out)]; rfl
            have y1 : w25.cell? ⟨w21.heap.size, 1, none⟩ = some (.slice b21 c.codes.length r21) := by rw [cell_of_row _ _ _ _ _ _ (HE25.out)]; rfl
            have y2 : w25.cell? ⟨w21.heap.size, 2, none⟩ = some (.slice d21 c.subs.length s21) := by rw [cell_of_row _ _ _ _ _ _ (HE25.out)]; rfl
            have y3 : w25.cell? ⟨w21.heap.size, 3, none⟩ = some (.slice f21 (c.data.length + l12.length) t21) := by rw [cell_of_row _ _ _ _ _ _ (HE25.out)]; rfl
            have y4 : w25.cell? ⟨w21.heap.size, 4, none⟩ = some (.int .i64 ((c.data.length : Int) + l12.length)) := by rw [cell_of_row _ _ _ _ _ _ (HE25.out)]; rfl
            go_wp2_with fail
            clear y0 y1 y2 y3 y4
            refine (bytes_any HY25.out HMY.out (small_mono HSY.out (by decide))).mono ?_
            rintro _ w26 ⟨a26, c26, rfl, ho26, hb26⟩
            have HB26 := Lib.hid (HB25.out.trans (hb26.mono HB25.out.size))
            have HO26 := Lib.hid ho26.rb
            have HP26 := Lib.hid (HO25.out.below hb26 (Nat.le_refl _))
            clear ho26 hb26
            go_wp2_with fail
            refine (sameBytes_self HP26.out HO26.out (by have := ser_len HMY.out (small_mono HSY.out (by decide)); unfold maxLen; omega)).mono ?_
            rintro _ w27 ⟨rfl, n27, rfl⟩
            go_wp2_with fail
            go_ret
            exact ⟨rfl, (HB.out.trans (HB26.out.mono HB.out.size)).trans (drewN_below _ _ _)⟩


  · go_wp2_with fail
    go_ret
    exact ⟨rfl, HB.out.trans (HB2.out.mono HB.out.size)⟩

end Go.Proofs.Ytalhoahkbmeeeaa
