/- types (35): the types of the sections, read. -/
import Derived.Test.YtalhoahkbmeeeaaCut
import Derived.Deep.RegionLaw
namespace Go.Proofs.Ytalhoahkbmeeeaa
open Go.RowKit

theorem Kp.heap {S : Nat → Prop} {w w' : World} (h : Kp S w w') {b : Nat} {o : Obj} (hx : w.heap[b]? = some o) (hn : ¬ S b) : w'.heap[b]? = some o := by
  rw [h.block b (Array.getElem?_eq_some_iff.1 hx).1 hn]; exact hx
theorem heap_alloc {w : World} {b : Nat} {o o' : Obj} (hx : w.heap[b]? = some o) : (w.alloc o').heap[b]? = some o :=
  ((Kp.refl (fun _ => False) w).alloc o').heap hx (fun h => h)
theorem heap_lt {w : World} {b : Nat} {o : Obj} (hx : w.heap[b]? = some o) : b < w.heap.size := (Array.getElem?_eq_some_iff.1 hx).1

/-- the bounds of a list of types -/
structure TyOk (ts : List Ty) : Prop where
  in1 : ∀ k, k < ts.length → 0 ≤ (gt ts k).1
  in2 : ∀ k, k < ts.length → (gt ts k).1 ≤ 127
  out1 : ∀ k, k < ts.length → 0 ≤ (gt ts k).2.1
  out2 : ∀ k, k < ts.length → (gt ts k).2.1 ≤ 128
  most1 : ∀ k, k < ts.length → 0 ≤ (gt ts k).2.2
  most2 : ∀ k, k < ts.length → (gt ts k).2.2 ≤ 1023
  first1 : (gt ts 0).1 = 0
  first2 : (gt ts 0).2.1 = 128

theorem drop_types {l rest : List Int} {p k : Nat} {ts : List Ty} (hd : l.drop p = types4 ts ++ rest) (hk : k < ts.length) :
    ∃ r2, l.drop (p + 4 * k) = (gt ts k).1 % 256 :: (gt ts k).2.1 % 256 :: (be2 (gt ts k).2.2 ++ r2) := by
  have e : ts = ts.take k ++ gt ts k :: ts.drop (k + 1) := by
    rw [gt_eq hk]; simp
  have e2 : types4 ts = types4 (ts.take k) ++ ([(gt ts k).1 % 256, (gt ts k).2.1 % 256] ++ be2 (gt ts k).2.2 ++ types4 (ts.drop (k + 1))) := by
    conv => lhs; rw [e]
    simp [types4]
  refine ⟨types4 (ts.drop (k + 1)) ++ rest, ?_⟩
  rw [← List.drop_drop, hd, e2, List.append_assoc, List.drop_left' (by rw [types4_len, List.length_take]; congr 1; omega)]
  simp

/-- the state of a round: the reader, the container's block, the rules' block -/
structure TS (W : World) (g cb rb : Nat) (v : Value) (p : Int) (vt x1 x2 x3 x4 : Value) : Prop where
  rd : RD W g v p
  cn : W.heap[cb]? = some (.cells #[vt, x1, x2, x3, x4] 26)
  ru : W.heap[rb]? = some (.cells #[.int .i64 1, .func (.func 41) #[] #[], .func (.func 42) #[] #[], .int .i64 1, .func (.func 43) #[] #[], .func (.func 44) #[] #[], .int .i64 2, .func (.func 45) #[] #[], .func (.func 46) #[] #[]] 84)

theorem TS.alloc {W : World} {g cb rb : Nat} {v : Value} {p : Int} {vt x1 x2 x3 x4 : Value} (h : TS W g cb rb v p vt x1 x2 x3 x4) (o : Obj) : TS (W.alloc o) g cb rb v p vt x1 x2 x3 x4 :=
  ⟨h.rd.alloc o, heap_alloc h.cn, heap_alloc h.ru⟩
/-- behind a reading -/
theorem TS.read {W W' : World} {g cb rb : Nat} {v : Value} {p q : Int} {vt x1 x2 x3 x4 : Value} (h : TS W g cb rb v p vt x1 x2 x3 x4) (hr : RD W' g v q) (hk : Kp (· = g) W W') (h1 : cb ≠ g) (h2 : rb ≠ g) : TS W' g cb rb v q vt x1 x2 x3 x4 :=
  ⟨hr, hk.heap h.cn h1, hk.heap h.ru h2⟩
theorem heap_set_ne {W : World} {b b' j : Nat} {o : Obj} (h : W.heap[b]? = some o) (hn : b ≠ b') (u : Value) : (W.setCell ⟨b', j, none⟩ u).heap[b]? = some o := by
  rw [Below.heap_setCell _ _ _ _ hn]; exact h
/-- behind a store into another block -/
theorem TS.store {W : World} {g cb rb b j : Nat} {v : Value} {p : Int} {vt x1 x2 x3 x4 : Value} (h : TS W g cb rb v p vt x1 x2 x3 x4) (h1 : b ≠ g) (h2 : b ≠ cb) (h3 : b ≠ rb) (u : Value) : TS (W.setCell ⟨b, j, none⟩ u) g cb rb v p vt x1 x2 x3 x4 :=
  ⟨h.rd.kp ((Kp.refl (fun x => x = b) W).setCell rfl u) (fun e => h1 e.symm), heap_set_ne h.cn (fun e => h2 e.symm) _, heap_set_ne h.ru (fun e => h3 e.symm) _⟩

theorem rc_ty (w : World) (x y z : Value) : RC (w.alloc (.cells #[x, y, z] 53)) (.slice (some ⟨w.heap.size, 0, none⟩) 1 1) 1 3 [x, y, z] :=
  RC.ofOwn (World.ownsRow_lit w #[x, y, z] 1 (base := 0) (size := 3) (Nat.zero_le _) (by unfold maxLen; omega) rfl)
theorem ty_one (x y z : Int) : ∀ u ∈ [Value.int .i64 x, Value.int .i64 y, Value.int .i64 z], u.oneCell' = true := by
  intro u hu
  simp at hu
  rcases hu with rfl | rfl | rfl <;> rfl

set_option maxRecDepth 100000 in
set_option maxHeartbeats 6400000 in
theorem types_ok {w0 w : World} {g cb : Nat} {v : Value} {l rest : List Int} {p : Nat} {ts : List Ty} {x1 x2 x3 x4 : Value} (h0 : RB w0 v l) (hb : Below w0.heap.size w0 w) (hg : w0.heap.size ≤ g) (hr : RD w g v (p : Int))
    (hd : l.drop p = types4 ts ++ rest) (hp : p ≤ l.length) (hlen : l.length ≤ 1000000000) (hln : ts.length ≤ 1024) (hok : TyOk ts) (hcg : cb ≠ g) (hcw : w0.heap.size ≤ cb)
    (hcb : w.heap[cb]? = some (.cells #[.slice none 0 0, x1, x2, x3, x4] 26)) :
    Calls Try.prog 35 #[.pointer (some ⟨g, 0, none⟩), .pointer (some ⟨cb, 0, none⟩), .int .i64 (ts.length : Int)] w fun e w' => ∃ vt, e = .returned (.tuple #[]) ∧ w'.ownsRow w.heap.size 53 3 vt ts.length (tyVals ts) ∧ RD w' g v ((p + 4 * ts.length : Nat) : Int) ∧ w'.heap[cb]? = some (.cells #[vt, x1, x2, x3, x4] 26) ∧ Kp (fun b => b = g ∨ b = cb) w w' := by
  obtain ⟨a, c, rfl⟩ := RC.slice h0
  have hpl : p + 4 * ts.length ≤ l.length := by
    have : (l.drop p).length = 4 * ts.length + rest.length := by rw [hd, List.length_append, types4_len]
    rw [List.length_drop] at this
    omega
  have HNX := Lib.hid (fun (n : Nat) (hn : n ≤ 4) (W : World) (hW : Below w0.heap.size w0 W) (q : Nat) (hR : RD W g (.slice a l.length c) (q : Int)) (hq : q + n ≤ l.length) (hy : ∀ x ∈ (l.drop q).take n, 0 ≤ x ∧ x < 256) => next_ok (n := n) h0 hy hW hg hR hn hq hlen)
  obtain ⟨i0, hi, hz, hsz, hby3⟩ := info_parts info53
  have HB := Lib.hid hb
  have HD := Lib.hid hd
  have HOK := Lib.hid hok
  have HR := Lib.hid hr
  have HCB := Lib.hid hcb
  have HG := Lib.hid hg
  have HCW := Lib.hid hcw
  have HPL := Lib.hid hpl
  have hgl := hr.lt
  have hcl := heap_lt hcb
  have HCL := Lib.hid hcl
  have HGL := Lib.hid hgl
  clear hb h0 hd hok hpl hr hcb
  go_enter Try.func35, Try.ntmps35
  go_wp2_with fail
  refine (bounds_any _).mono ?_
  unfold boundsVal
  rintro e w1 ⟨rfl, hb1⟩
  have hs1 := hb1.size
  have HB1 := Lib.hid hb1
  clear hb1
  go_wp2_with fail
  have hts0 : TS (w1.alloc (.cells #[.int .i64 1, .func (.func 41) #[] #[], .func (.func 42) #[] #[], .int .i64 1, .func (.func 43) #[] #[], .func (.func 44) #[] #[], .int .i64 2, .func (.func 45) #[] #[], .func (.func 46) #[] #[]] 84)) g cb w1.heap.size (.slice a l.length c) (p : Int) (.slice none 0 0) x1 x2 x3 x4 :=
    ⟨(HR.out.kp (Kp.ofBelow (S := fun _ => False) HB1.out) (fun h => h)).alloc _, heap_alloc ((Kp.ofBelow (S := fun _ => False) HB1.out).heap HCB.out (fun h => h)), heap_alloc_new _ _⟩
  have hk0 : Kp (fun b => b = g ∨ b = cb) w (w1.alloc (.cells #[.int .i64 1, .func (.func 41) #[] #[], .func (.func 42) #[] #[], .int .i64 1, .func (.func 43) #[] #[], .func (.func 44) #[] #[], .int .i64 2, .func (.func 45) #[] #[], .func (.func 46) #[] #[]] 84)) := (Kp.ofBelow HB1.out).alloc _
  go_loopw [15] (fun i wr => ∃ (k q : Nat) (r : Value), k ≤ ts.length ∧ q = p + 4 * k ∧ i = .int .i64 k ∧ wr.ownsRow w.heap.size 53 3 r k (tyVals (ts.take k)) ∧ TS wr g cb w1.heap.size (.slice a l.length c) (q : Int) r x1 x2 x3 x4 ∧ (∀ b, r.ownBlock = some b → b ≠ w1.heap.size) ∧ Kp (fun b => b = g ∨ b = cb) w wr) (fun i _ => ts.length - (intOf i).toNat)
  case atStart => exact ⟨0, p, _, by omega, by omega, rfl, World.ownsRow_nil _ _ _ _, hts0, fun b h => by simp [Value.ownBlock] at h, hk0⟩
  case round =>
    clear hts0 hk0
    obtain ⟨k, q, r, hk, hq, rfl, hown, hts, hrn, hkp⟩ := hrel
    by_cases hlt : k < ts.length
    · have r0 : wr.cell? ⟨w1.heap.size, 0, none⟩ = some (.int .i64 1) := by rw [cell_of_row _ _ _ _ _ _ hts.ru]; rfl
      have r1 : wr.cell? ⟨w1.heap.size, 1, none⟩ = some (.func (.func 41) #[] #[]) := by rw [cell_of_row _ _ _ _ _ _ hts.ru]; rfl
      have r2 : wr.cell? ⟨w1.heap.size, 2, none⟩ = some (.func (.func 42) #[] #[]) := by rw [cell_of_row _ _ _ _ _ _ hts.ru]; rfl
      have r3 : wr.cell? ⟨w1.heap.size, 3, none⟩ = some (.int .i64 1) := by rw [cell_of_row _ _ _ _ _ _ hts.ru]; rfl
      have r4 : wr.cell? ⟨w1.heap.size, 4, none⟩ = some (.func (.func 43) #[] #[]) := by rw [cell_of_row _ _ _ _ _ _ hts.ru]; rfl
      have r5 : wr.cell? ⟨w1.heap.size, 5, none⟩ = some (.func (.func 44) #[] #[]) := by rw [cell_of_row _ _ _ _ _ _ hts.ru]; rfl
      have r6 : wr.cell? ⟨w1.heap.size, 6, none⟩ = some (.int .i64 2) := by rw [cell_of_row _ _ _ _ _ _ hts.ru]; rfl
      have r7 : wr.cell? ⟨w1.heap.size, 7, none⟩ = some (.func (.func 45) #[] #[]) := by rw [cell_of_row _ _ _ _ _ _ hts.ru]; rfl
      have r8 : wr.cell? ⟨w1.heap.size, 8, none⟩ = some (.func (.func 46) #[] #[]) := by rw [cell_of_row _ _ _ _ _ _ hts.ru]; rfl
      have hrb := heap_lt hts.ru
      have hgb := hts.rd.lt
      have hcb := heap_lt hts.cn
      have HO := Lib.hid hown
      have HTS := Lib.hid hts
      have HKP := Lib.hid hkp
      have HQ := Lib.hid hq
      have HRN := Lib.hid hrn
      clear hown hts hkp hrn hq
      go_wp2_with fail
      obtain ⟨tb, htb⟩ : ∃ t, t = wr.heap.size := ⟨_, rfl⟩
      obtain ⟨X0, hX0⟩ : ∃ X, X = wr.alloc (.cells #[.int .i64 0, .int .i64 0, .int .i64 0] 53) := ⟨_, rfl⟩
      rw [← hX0, ← htb]
      have htw : w.heap.size ≤ tb := by rw [htb]; exact HKP.out.size
      have HRT := Lib.hid (show ∀ b, r.ownBlock = some b → b ≠ tb from fun b hb => by have := (HO.out.lt b hb).2; omega)
      have HT0 := Lib.hid (show TS X0 g cb w1.heap.size (.slice a l.length c) (q : Int) r x1 x2 x3 x4 by rw [hX0]; exact HTS.out.alloc _)
      have HC0 := Lib.hid (show X0.heap[tb]? = some (.cells #[.int .i64 0, .int .i64 0, .int .i64 0] 53) by rw [hX0, htb]; exact heap_alloc_new _ _)
      have HK0 := Lib.hid (show Kp (fun b => b = g ∨ b = cb ∨ w.heap.size ≤ b) w X0 by rw [hX0]; exact (HKP.out.imp (fun b _ e => e.elim .inl (fun e => .inr (.inl e)))).alloc _)
      have HO0 := Lib.hid (show X0.ownsRow w.heap.size 53 3 r k (tyVals (ts.take k)) by rw [hX0]; exact HO.out.alloc _)
      have hs0 : tb < X0.heap.size := heap_lt HC0.out
      have hgt : g < tb := by omega
      have hct : cb < tb := by omega
      have hrt : w1.heap.size < tb := by omega
      clear hX0 htb
      obtain ⟨rs, hr2⟩ := drop_types HD.out hlt
      rw [← HQ.out] at hr2
      have b0 := HOK.out.in1 k hlt
      have b1 := HOK.out.in2 k hlt
      have b2 := HOK.out.out1 k hlt
      have b3 := HOK.out.out2 k hlt
      have b4 := HOK.out.most1 k hlt
      have b5 := HOK.out.most2 k hlt
      have HV0 := Lib.hid (show num ((l.drop q).take 1) = (gt ts k).1 by rw [hr2]; simp [num]; omega)
      have HV1 := Lib.hid (show num ((l.drop (q + 1)).take 1) = (gt ts k).2.1 by rw [← List.drop_drop, hr2]; simp [num]; omega)
      have HV2 := Lib.hid (show num ((l.drop (q + 1 + 1)).take 2) = (gt ts k).2.2 by rw [← List.drop_drop, ← List.drop_drop, hr2]; simp [num, be2]; omega)
      have HY0 := Lib.hid (show ∀ x ∈ (l.drop q).take 1, 0 ≤ x ∧ x < 256 by rw [hr2]; intro y hy; simp at hy; omega)
      have HY1 := Lib.hid (show ∀ x ∈ (l.drop (q + 1)).take 1, 0 ≤ x ∧ x < 256 by rw [← List.drop_drop, hr2]; intro y hy; simp at hy; omega)
      have HY2 := Lib.hid (show ∀ x ∈ (l.drop (q + 1 + 1)).take 2, 0 ≤ x ∧ x < 256 by rw [← List.drop_drop, ← List.drop_drop, hr2]; intro y hy; simp [be2] at hy; omega)
      clear hr2
      refine wp_loop_rounds 4 ?_
      have i0' := bi0
      have i1' := bi1
      have i2' := bi2
      clear r0 r1 r2 r3 r4 r5 r6 r7 r8
      rw [rounds_succ]
      have hnx0 := HNX.out 1 (by omega) (X0.alloc (.cells #[.int .i64 1, .func (.func 41) #[] #[], .func (.func 42) #[] #[]] 83)) (HB.out.trans ((HK0.out.alloc _).below (by have := HB.out.size; omega) (fun b _ e => by have := HG.out; have := HCW.out; have := HB.out.size; rcases e with e | e | e <;> omega))) (q) (HT0.out.rd.alloc _) (by have := HPL.out; have := HQ.out; omega) HY0.out
      rw [HV0.out] at hnx0
      have HNX0 := Lib.hid hnx0
      clear hnx0
      go_wp2_with fail
      refine HNX0.out.mono ?_
      rintro _ y0 ⟨rfl, hr0, hk0⟩
      have fc0 : y0.heap[X0.heap.size]? = some (.cells #[.int .i64 1, .func (.func 41) #[] #[], .func (.func 42) #[] #[]] 83) := hk0.heap (heap_alloc_new _ _) (fun e => by have := HT0.out.rd.lt; omega)
      have tc0 : y0.heap[tb]? = some (.cells #[.int .i64 0, .int .i64 0, .int .i64 0] 53) := hk0.heap (heap_alloc HC0.out) (fun e => by omega)
      have f1 : y0.cell? ⟨X0.heap.size, 1, none⟩ = some (.func (.func 41) #[] #[]) := by rw [cell_of_row _ _ _ _ _ _ fc0]; rfl
      have f2 : y0.cell? ⟨X0.heap.size, 2, none⟩ = some (.func (.func 42) #[] #[]) := by rw [cell_of_row _ _ _ _ _ _ fc0]; rfl
      have u1 : y0.cell? ⟨tb, 0, none⟩ = some (.int .i64 0) := by rw [cell_of_row _ _ _ _ _ _ tc0]; rfl
      have u2 : y0.frozen? ⟨tb, 0, none⟩ = false := frozen_of_row _ _ _ _ _ tc0
      have HR0 := Lib.hid hr0
      have HKK0 := Lib.hid hk0
      have HTC0 := Lib.hid tc0
      clear hr0 hk0 fc0 tc0
      go_wp2_with fail
      refine (fits41 _ _ _ (HOK.out.in1 k hlt) (HOK.out.in2 k hlt) (fun h => by
        have : k = 0 := by simpa using h
        subst this
        exact HOK.out.first1)).mono ?_
      rintro _ y0 ⟨rfl, rfl⟩
      go_wp2_with fail
      refine (ask_ok _ _ _ _).mono ?_
      rintro _ y0 ⟨rfl, rfl⟩
      go_wp2_with fail
      refine (value42 _ _ _).mono ?_
      rintro _ y0 ⟨rfl, rfl⟩
      go_wp2_with fail
      obtain ⟨X1, hX1⟩ : ∃ X, X = y0.setCell ⟨tb, 0, none⟩ (.int .i64 (gt ts k).1) := ⟨_, rfl⟩
      rw [← hX1]
      have HT1 := Lib.hid (show TS X1 g cb w1.heap.size (.slice a l.length c) ((q + 1 : Nat) : Int) r x1 x2 x3 x4 by rw [hX1]; exact ((HT0.out.alloc _).read HR0.out HKK0.out hcg (by omega)).store (by omega) (by omega) (by omega) _)
      have HC1 := Lib.hid (show X1.heap[tb]? = some (.cells #[.int .i64 (gt ts k).1, .int .i64 0, .int .i64 0] 53) by rw [hX1]; exact heap_setCell_same _ _ _ _ _ _ HTC0.out)
      have HK1 := Lib.hid (show Kp (fun b => b = g ∨ b = cb ∨ w.heap.size ≤ b) w X1 by rw [hX1]; exact ((HK0.out.alloc _).trans (HKK0.out.imp (fun b _ e => .inl e))).setCell (.inr (.inr htw)) _)
      have HO1 := Lib.hid (show X1.ownsRow w.heap.size 53 3 r k (tyVals (ts.take k)) by rw [hX1]; exact ownsRow_setCell_ne (a := ⟨tb, 0, none⟩) (HKK0.out.owns (HO0.out.alloc _) (fun b hb e => by have := (HO0.out.lt b hb).1; omega)) (fun e => HRT.out tb e rfl) _)
      have hs1 : tb < X1.heap.size := heap_lt HC1.out
      clear hX1 f1 f2 u1 u2
      rw [rounds_succ]
      have hnx1 := HNX.out 1 (by omega) (X1.alloc (.cells #[.int .i64 1, .func (.func 43) #[] #[], .func (.func 44) #[] #[]] 83)) (HB.out.trans ((HK1.out.alloc _).below (by have := HB.out.size; omega) (fun b _ e => by have := HG.out; have := HCW.out; have := HB.out.size; rcases e with e | e | e <;> omega))) (q + 1) (HT1.out.rd.alloc _) (by have := HPL.out; have := HQ.out; omega) HY1.out
      rw [HV1.out] at hnx1
      have HNX1 := Lib.hid hnx1
      clear hnx1
      go_wp2_with fail
      refine HNX1.out.mono ?_
      rintro _ y1 ⟨rfl, hr1, hk1⟩
      have fc1 : y1.heap[X1.heap.size]? = some (.cells #[.int .i64 1, .func (.func 43) #[] #[], .func (.func 44) #[] #[]] 83) := hk1.heap (heap_alloc_new _ _) (fun e => by have := HT1.out.rd.lt; omega)
      have tc1 : y1.heap[tb]? = some (.cells #[.int .i64 (gt ts k).1, .int .i64 0, .int .i64 0] 53) := hk1.heap (heap_alloc HC1.out) (fun e => by omega)
      have f1 : y1.cell? ⟨X1.heap.size, 1, none⟩ = some (.func (.func 43) #[] #[]) := by rw [cell_of_row _ _ _ _ _ _ fc1]; rfl
      have f2 : y1.cell? ⟨X1.heap.size, 2, none⟩ = some (.func (.func 44) #[] #[]) := by rw [cell_of_row _ _ _ _ _ _ fc1]; rfl
      have u1 : y1.cell? ⟨tb, 1, none⟩ = some (.int .i64 0) := by rw [cell_of_row _ _ _ _ _ _ tc1]; rfl
      have u2 : y1.frozen? ⟨tb, 1, none⟩ = false := frozen_of_row _ _ _ _ _ tc1
      have HR1 := Lib.hid hr1
      have HKK1 := Lib.hid hk1
      have HTC1 := Lib.hid tc1
      clear hr1 hk1 fc1 tc1
      go_wp2_with fail
      refine (fits43 _ _ _ (HOK.out.out1 k hlt) (HOK.out.out2 k hlt) (fun h => by
        have : k = 0 := by simpa using h
        subst this
        exact HOK.out.first2)).mono ?_
      rintro _ y1 ⟨rfl, rfl⟩
      go_wp2_with fail
      refine (ask_ok _ _ _ _).mono ?_
      rintro _ y1 ⟨rfl, rfl⟩
      go_wp2_with fail
      refine (value44 _ _ _).mono ?_
      rintro _ y1 ⟨rfl, rfl⟩
      go_wp2_with fail
      obtain ⟨X2, hX2⟩ : ∃ X, X = y1.setCell ⟨tb, 1, none⟩ (.int .i64 (gt ts k).2.1) := ⟨_, rfl⟩
      rw [← hX2]
      have HT2 := Lib.hid (show TS X2 g cb w1.heap.size (.slice a l.length c) ((q + 1 + 1 : Nat) : Int) r x1 x2 x3 x4 by rw [hX2]; exact ((HT1.out.alloc _).read HR1.out HKK1.out hcg (by omega)).store (by omega) (by omega) (by omega) _)
      have HC2 := Lib.hid (show X2.heap[tb]? = some (.cells #[.int .i64 (gt ts k).1, .int .i64 (gt ts k).2.1, .int .i64 0] 53) by rw [hX2]; exact heap_setCell_same _ _ _ _ _ _ HTC1.out)
      have HK2 := Lib.hid (show Kp (fun b => b = g ∨ b = cb ∨ w.heap.size ≤ b) w X2 by rw [hX2]; exact ((HK1.out.alloc _).trans (HKK1.out.imp (fun b _ e => .inl e))).setCell (.inr (.inr htw)) _)
      have HO2 := Lib.hid (show X2.ownsRow w.heap.size 53 3 r k (tyVals (ts.take k)) by rw [hX2]; exact ownsRow_setCell_ne (a := ⟨tb, 1, none⟩) (HKK1.out.owns (HO1.out.alloc _) (fun b hb e => by have := (HO1.out.lt b hb).1; omega)) (fun e => HRT.out tb e rfl) _)
      have hs2 : tb < X2.heap.size := heap_lt HC2.out
      clear hX2 f1 f2 u1 u2
      rw [rounds_succ]
      have hnx2 := HNX.out 2 (by omega) (X2.alloc (.cells #[.int .i64 2, .func (.func 45) #[] #[], .func (.func 46) #[] #[]] 83)) (HB.out.trans ((HK2.out.alloc _).below (by have := HB.out.size; omega) (fun b _ e => by have := HG.out; have := HCW.out; have := HB.out.size; rcases e with e | e | e <;> omega))) (q + 1 + 1) (HT2.out.rd.alloc _) (by have := HPL.out; have := HQ.out; omega) HY2.out
      rw [HV2.out] at hnx2
      have HNX2 := Lib.hid hnx2
      clear hnx2
      go_wp2_with fail
      refine HNX2.out.mono ?_
      rintro _ y2 ⟨rfl, hr2, hk2⟩
      have fc2 : y2.heap[X2.heap.size]? = some (.cells #[.int .i64 2, .func (.func 45) #[] #[], .func (.func 46) #[] #[]] 83) := hk2.heap (heap_alloc_new _ _) (fun e => by have := HT2.out.rd.lt; omega)
      have tc2 : y2.heap[tb]? = some (.cells #[.int .i64 (gt ts k).1, .int .i64 (gt ts k).2.1, .int .i64 0] 53) := hk2.heap (heap_alloc HC2.out) (fun e => by omega)
      have f1 : y2.cell? ⟨X2.heap.size, 1, none⟩ = some (.func (.func 45) #[] #[]) := by rw [cell_of_row _ _ _ _ _ _ fc2]; rfl
      have f2 : y2.cell? ⟨X2.heap.size, 2, none⟩ = some (.func (.func 46) #[] #[]) := by rw [cell_of_row _ _ _ _ _ _ fc2]; rfl
      have u1 : y2.cell? ⟨tb, 2, none⟩ = some (.int .i64 0) := by rw [cell_of_row _ _ _ _ _ _ tc2]; rfl
      have u2 : y2.frozen? ⟨tb, 2, none⟩ = false := frozen_of_row _ _ _ _ _ tc2
      have HR2 := Lib.hid hr2
      have HKK2 := Lib.hid hk2
      have HTC2 := Lib.hid tc2
      clear hr2 hk2 fc2 tc2
      go_wp2_with fail
      refine (fits45 _ _ _ (HOK.out.most1 k hlt) (HOK.out.most2 k hlt)).mono ?_
      rintro _ y2 ⟨rfl, rfl⟩
      go_wp2_with fail
      refine (ask_ok _ _ _ _).mono ?_
      rintro _ y2 ⟨rfl, rfl⟩
      go_wp2_with fail
      refine (value46 _ _ _).mono ?_
      rintro _ y2 ⟨rfl, rfl⟩
      go_wp2_with fail
      obtain ⟨X3, hX3⟩ : ∃ X, X = y2.setCell ⟨tb, 2, none⟩ (.int .i64 (gt ts k).2.2) := ⟨_, rfl⟩
      rw [← hX3]
      have HT3 := Lib.hid (show TS X3 g cb w1.heap.size (.slice a l.length c) ((q + 1 + 1 + 2 : Nat) : Int) r x1 x2 x3 x4 by rw [hX3]; exact ((HT2.out.alloc _).read HR2.out HKK2.out hcg (by omega)).store (by omega) (by omega) (by omega) _)
      have HC3 := Lib.hid (show X3.heap[tb]? = some (.cells #[.int .i64 (gt ts k).1, .int .i64 (gt ts k).2.1, .int .i64 (gt ts k).2.2] 53) by rw [hX3]; exact heap_setCell_same _ _ _ _ _ _ HTC2.out)
      have HK3 := Lib.hid (show Kp (fun b => b = g ∨ b = cb ∨ w.heap.size ≤ b) w X3 by rw [hX3]; exact ((HK2.out.alloc _).trans (HKK2.out.imp (fun b _ e => .inl e))).setCell (.inr (.inr htw)) _)
      have HO3 := Lib.hid (show X3.ownsRow w.heap.size 53 3 r k (tyVals (ts.take k)) by rw [hX3]; exact ownsRow_setCell_ne (a := ⟨tb, 2, none⟩) (HKK2.out.owns (HO2.out.alloc _) (fun b hb e => by have := (HO2.out.lt b hb).1; omega)) (fun e => HRT.out tb e rfl) _)
      have hs3 : tb < X3.heap.size := heap_lt HC3.out
      clear hX3 f1 f2 u1 u2
      rw [rounds_succ]
      have k0 : X3.cell? ⟨cb, 0, none⟩ = some r := by rw [cell_of_row _ _ _ _ _ _ HT3.out.cn]; rfl
      have kf : X3.frozen? ⟨cb, 0, none⟩ = false := frozen_of_row _ _ _ _ _ HT3.out.cn
      have t0 : X3.cell? ⟨tb, 0, none⟩ = some (.int .i64 (gt ts k).1) := by rw [cell_of_row _ _ _ _ _ _ HC3.out]; rfl
      have t1 : X3.cell? ⟨tb, 1, none⟩ = some (.int .i64 (gt ts k).2.1) := by rw [cell_of_row _ _ _ _ _ _ HC3.out]; rfl
      have t2 : X3.cell? ⟨tb, 2, none⟩ = some (.int .i64 (gt ts k).2.2) := by rw [cell_of_row _ _ _ _ _ _ HC3.out]; rfl
      go_wp2_with fail
      have HKF := Lib.hid kf
      have hwX : w.heap.size ≤ X3.heap.size := by omega
      have hcx : cb < X3.heap.size := by omega
      clear kf
      go_region_law ((refine step_append_rc rfl (.tmp 48) (.tmp 50) 22 rfl w.heap.size 53 i0 _ 3 24 Try.underlying22 hi hz hsz hby3 rfl (by decide) _ k (tyVals (ts.take k)) rfl (HO3.out.alloc _) _ 1 [.int .i64 (gt ts k).1, .int .i64 (gt ts k).2.1, .int .i64 (gt ts k).2.2] rfl (rc_ty _ _ _ _) (ty_one _ _ _) (by unfold maxLen; omega) (by omega) (by first | omega | (simp <;> omega)) ?_
                      intro v5 w5 ho5 hg5 hat5
                      obtain ⟨a5, c5, hv5⟩ := ownsRow_slice ho5
                      subst hv5
                      have hk5 : Kp (fun b => r.ownBlock = some b) X3 w5 := (((Kp.refl _ _).alloc _).drew).trans (Kp.ofGrown hg5 (fun b hb _ => hb))
                      have kc : w5.cell? ⟨cb, 0, none⟩ = some r := hk5.cell k0 (fun e => by have h1 : w.heap.size ≤ cb := (HO3.out.lt _ e).1; have := HCL.out; omega)
                      have kf : w5.frozen? ⟨cb, 0, none⟩ = false := by rw [hk5.frozen (by show cb < _; omega) (fun e => by have h1 : w.heap.size ≤ cb := (HO3.out.lt _ e).1; have := HCL.out; omega)]; exact HKF.out))
      all_goals
        have ho6 : w5.ownsRow w.heap.size 53 3 (.slice a5 (k + 1) c5) (k + 1) (tyVals (ts.take (k + 1))) := by
          rw [take_snoc_gt hlt]
          simpa [tyVals] using ho5
        have hcn : (w5.setCell ⟨cb, 0, none⟩ (.slice a5 (k + 1) c5)).heap[cb]? = some (.cells #[.slice a5 (k + 1) c5, x1, x2, x3, x4] 26) := heap_setCell_same _ _ _ _ _ _ (hk5.heap HT3.out.cn (fun e => by have h1 : w.heap.size ≤ cb := (HO3.out.lt _ e).1; have := HCL.out; omega))
        have hts6 : TS (w5.setCell ⟨cb, 0, none⟩ (.slice a5 (k + 1) c5)) g cb w1.heap.size (.slice a l.length c) ((q + 1 + 1 + 2 : Nat) : Int) (.slice a5 (k + 1) c5) x1 x2 x3 x4 :=
          ⟨(HT3.out.rd.kp hk5 (fun e => by have h1 : w.heap.size ≤ g := (HO3.out.lt _ e).1; have := HGL.out; omega)).kp (Kp.setCell (S := fun b => b = cb) (p := ⟨cb, 0, none⟩) (Kp.refl _ _) rfl _) (fun e => hcg e.symm), hcn,
            heap_set_ne (hk5.heap HT3.out.ru (fun e => HRN.out _ e rfl)) (by omega) _⟩
        have hrn6 : ∀ b, (Value.slice a5 (k + 1) c5).ownBlock = some b → b ≠ w1.heap.size := fun b hb => by
          rcases hat5 with h | h
          · exact HRN.out b (h.symm.trans hb)
          · have h2 := h.symm.trans hb
            simp at h2
            omega
        have hk6 : Kp (fun b => b = g ∨ b = cb) w (w5.setCell ⟨cb, 0, none⟩ (.slice a5 (k + 1) c5)) :=
          ((HK3.out.trans (hk5.imp (fun b _ e => .inr (.inr (HO3.out.lt b e).1)))).setCell (p := ⟨cb, 0, none⟩) (.inr (.inl rfl)) _).imp (fun b hb e => by rcases e with e | e | e; exact .inl e; exact .inr e; omega)
        have H6 := Lib.hid hts6
        have HN6 := Lib.hid hrn6
        have HK6 := Lib.hid hk6
        have HO6 := Lib.hid (ownsRow_setCell_ne (a := ⟨cb, 0, none⟩) ho6 (fun e => by have h1 : w.heap.size ≤ cb := (ho6.lt _ e).1; have := HCL.out; omega) (.slice a5 (k + 1) c5))
        clear hts6 hrn6 hk6 ho6 hcn ho5 hg5 hat5 hk5 kc kf t0 t1 t2 k0
        go_wp2_with fail
        exact ⟨⟨k + 1, q + 1 + 1 + 2, _, by omega, by rw [HQ.out]; omega, by go_num, HO6.out, H6.out, HN6.out, HK6.out⟩, by simp [intOf]; omega⟩
    · have hk2 : k = ts.length := by omega
      subst hk2
      rw [List.take_length] at hown
      have HO := Lib.hid hown
      have HTS := Lib.hid hts
      have HKP := Lib.hid hkp
      subst hq
      clear hown hts hkp hrn
      go_wp2_with fail
      go_end0
      exact ⟨r, rfl, HO.out, HTS.out.rd, HTS.out.cn, HKP.out⟩

end Go.Proofs.Ytalhoahkbmeeeaa
