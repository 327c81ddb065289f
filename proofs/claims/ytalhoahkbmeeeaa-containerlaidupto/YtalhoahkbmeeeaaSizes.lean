/- sizes (34): the lengths of parts, read. -/
import Derived.Test.YtalhoahkbmeeeaaRd
import Derived.Lib.MinMax
namespace Go.Proofs.Ytalhoahkbmeeeaa
open Go.RowKit

theorem info3 : (Try.prog.info? 3).map (fun i => (i.zero, i.size, i.bytes)) = some (some (.int .i64 0), 1, 8) := by kernel_rfl
def intVals (l : List Int) : List Value := l.map (Value.int .i64)
theorem intVals_one (l : List Int) : ∀ u ∈ intVals l, u.oneCell' = true := by
  intro u hu
  obtain ⟨x, -, rfl⟩ := List.mem_map.1 hu
  rfl

/-- the lengths of parts -/
def lensOf (ll : List (List Int)) : List Int := ll.map fun p => (p.length : Int)
/-- a length in n bytes -/
def beN (n : Nat) (x : Int) : List Int := if n = 2 then be2 x else be4 x
def lensN (n : Nat) (ll : List (List Int)) : List Int := ll.flatMap fun p => beN n p.length
theorem lensN2 (ll : List (List Int)) : lensN 2 ll = lens2 ll := rfl
theorem lensN4 (ll : List (List Int)) : lensN 4 ll = lens4 ll := rfl
theorem lensOf_snoc {ll : List (List Int)} {k : Nat} (h : k < ll.length) : lensOf (ll.take (k + 1)) = lensOf (ll.take k) ++ [((gp ll k).length : Int)] := by
  rw [take_snoc_gp h]; simp [lensOf]
theorem lensOf_len (ll : List (List Int)) : (lensOf ll).length = ll.length := by simp [lensOf]
theorem beN_len {n : Nat} (hn : n = 2 ∨ n = 4) (x : Int) : (beN n x).length = n := by rcases hn with rfl | rfl <;> rfl
theorem lensN_len {n : Nat} (hn : n = 2 ∨ n = 4) (ll : List (List Int)) : (lensN n ll).length = n * ll.length := by
  rcases hn with rfl | rfl
  · rw [lensN2, lens2_len]
  · rw [lensN4, lens4_len]
theorem beN_byt {n : Nat} (hn : n = 2 ∨ n = 4) (x : Int) : ∀ y ∈ beN n x, 0 ≤ y ∧ y < 256 := by
  rcases hn with rfl | rfl <;> intro y hy <;> simp [beN, be2, be4] at hy <;> omega
theorem num_be2 (x : Int) (h0 : 0 ≤ x) (h1 : x ≤ 65535) : num (be2 x) = x := by simp [num, be2]; omega
theorem num_be4 (x : Int) (h0 : 0 ≤ x) (h1 : x ≤ 4294967295) : num (be4 x) = x := by simp [num, be4]; omega
theorem num_beN {n : Nat} (hn : n = 2 ∨ n = 4) (x : Int) (h0 : 0 ≤ x) (h1 : x < 256 ^ n) : num (beN n x) = x := by
  rcases hn with rfl | rfl
  · exact num_be2 x h0 (by omega)
  · exact num_be4 x h0 (by omega)
theorem drop_lensN {n : Nat} {l rest : List Int} {p k : Nat} {ll : List (List Int)} (hn : n = 2 ∨ n = 4) (hd : l.drop p = lensN n ll ++ rest) (hk : k < ll.length) :
    (l.drop (p + n * k)).take n = beN n ((gp ll k).length : Int) := by
  have e : ll = ll.take k ++ gp ll k :: ll.drop (k + 1) := by
    rw [gp_eq hk]; simp
  have e2 : lensN n ll = lensN n (ll.take k) ++ (beN n ((gp ll k).length : Int) ++ lensN n (ll.drop (k + 1))) := by
    conv => lhs; rw [e]
    simp [lensN]
  rw [← List.drop_drop, hd, e2, List.append_assoc, List.drop_left' (by rw [lensN_len hn, List.length_take]; congr 1; omega), List.append_assoc, List.take_left' (beN_len hn _)]
/-- the sum of the first k lengths -/
def sumLen (ll : List (List Int)) : Int := (ll.flatten.length : Int)
theorem sumLen_snoc {ll : List (List Int)} {k : Nat} (h : k < ll.length) : sumLen (ll.take (k + 1)) = sumLen (ll.take k) + ((gp ll k).length : Int) := by
  unfold sumLen
  rw [flat_snoc h, List.length_append]; simp

set_option maxRecDepth 100000 in
set_option maxHeartbeats 3200000 in
theorem sizes_ok {w0 w : World} {g : Nat} {v : Value} {l rest : List Int} {p n : Nat} {ll : List (List Int)} (hn : n = 2 ∨ n = 4) (h0 : RB w0 v l) (hb : Below w0.heap.size w0 w) (hg : w0.heap.size ≤ g) (hr : RD w g v (p : Int))
    (hd : l.drop p = lensN n ll ++ rest) (hp : p ≤ l.length) (hlen : l.length ≤ 1000000000) (hll : ∀ k, k < ll.length → 1 ≤ (gp ll k).length ∧ ((gp ll k).length : Int) < 256 ^ n) (hln : ll.length ≤ 1024) :
    Calls Try.prog 34 #[.pointer (some ⟨g, 0, none⟩), .int .i64 (ll.length : Int), .int .i64 (n : Int)] w fun e w' => ∃ a c, e = .returned (.tuple #[.slice a ll.length c, .int .i64 (sumLen ll)]) ∧ w'.ownsRow w.heap.size 3 1 (.slice a ll.length c) ll.length (intVals (lensOf ll)) ∧ RD w' g v ((p + n * ll.length : Nat) : Int) ∧ Kp (· = g) w w' := by
  obtain ⟨a, c, rfl⟩ := RC.slice h0
  have hpl : p + n * ll.length ≤ l.length := by
    have : (l.drop p).length = n * ll.length + rest.length := by rw [hd, List.length_append, lensN_len hn]
    rw [List.length_drop] at this
    rcases hn with rfl | rfl <;> omega
  have hlm : ll.length ≤ l.length := by rcases hn with rfl | rfl <;> omega
  obtain ⟨i0, hi, hz, hsz, hby3⟩ := info_parts info3
  have hmk : ∀ W, (Instr.makeSlice 43 (.int .i64 0) (.int .i64 (min (ll.length : Int) (l.length : Int)))).run Try.prog W = .ok (.slice (some ⟨W.heap.size, 0, none⟩) 0 ll.length) (W.alloc (.cells (madeCells #[.int .i64 0] (ll.length * i0.size)) 3)) := fun W => by
    rw [show min (ll.length : Int) (l.length : Int) = (ll.length : Int) by omega]
    exact run_make_rowN (P := Try.prog) 43 3 i0 (.int .i64 0) Try.underlying43 hi hz .i64 .i64 0 ll.length (Nat.zero_le _) (by rw [hby3]; omega) (by omega) W
  rw [hsz, Nat.mul_one] at hmk
  have HNX := Lib.hid (fun (W : World) (hW : Below w0.heap.size w0 W) (q : Nat) (hR : RD W g (.slice a l.length c) (q : Int)) (hq : q + n ≤ l.length) (hy : ∀ x ∈ (l.drop q).take n, 0 ≤ x ∧ x < 256) => next_ok (n := n) h0 hy hW hg hR (by omega) hq hlen)
  have HB := Lib.hid hb
  have HD := Lib.hid hd
  have HLL := Lib.hid hll
  have HR := Lib.hid hr
  have HG := Lib.hid hg
  have HPL := Lib.hid hpl
  have HNN := Lib.hid hn
  have hgl := hr.lt
  obtain ⟨c0, c1, fz⟩ := hr
  have hlm' : (ll.length : Int) ≤ l.length := by omega
  clear hb h0 hd hll hpl hn
  go_enter Try.func34, Try.ntmps34
  go_wp2_with fail
  have ho0 : ((w.alloc (.cells (madeCells #[.int .i64 0] ll.length) 3))).ownsRow w.heap.size 3 1 (.slice (some ⟨w.heap.size, 0, none⟩) 0 ll.length) 0 [] :=
    World.ownsRow_made w _ _ (Nat.le_refl _) (by unfold maxLen; omega) (by rw [size_madeCells, Nat.mul_one])
  have hk0 : Kp (· = g) w (w.alloc (.cells (madeCells #[.int .i64 0] ll.length) 3)) := (Kp.refl _ _).alloc _
  go_loopw [8, 9, 21] (fun r s i wr => ∃ k q : Nat, k ≤ ll.length ∧ q = p + n * k ∧ i = .int .i64 k ∧ s = .int .i64 (sumLen (ll.take k)) ∧ wr.ownsRow w.heap.size 3 1 r k (intVals (lensOf (ll.take k))) ∧ RD wr g (.slice a l.length c) (q : Int) ∧ Kp (· = g) w wr) (fun _ _ i _ => ll.length - (intOf i).toNat)
  case atStart => exact ⟨0, p, by omega, by omega, rfl, rfl, ho0, HR.out.kp ((Kp.refl (fun b => b ≠ g) w).alloc _) (fun h => h rfl), hk0⟩
  case round =>
    clear c0 c1 fz ho0 hk0
    obtain ⟨k, q, hk, hq, rfl, rfl, hown, hrd, hkp⟩ := hrel
    by_cases hlt : k < ll.length
    · have hbw := HB.out.trans (hkp.below HB.out.size (fun b _ e => by have := HG.out; omega))
      have hqn : q + n ≤ l.length := by
        have := HPL.out
        rcases HNN.out with rfl | rfl <;> omega
      have hbt : (l.drop q).take n = beN n ((gp ll k).length : Int) := by rw [hq, drop_lensN HNN.out HD.out hlt]
      have hnx := HNX.out wr hbw q hrd hqn (by rw [hbt]; exact beN_byt HNN.out _)
      have hval : num ((l.drop q).take n) = ((gp ll k).length : Int) := by
        rw [hbt]
        exact num_beN HNN.out _ (by omega) (HLL.out k hlt).2
      rw [hval] at hnx
      have HX := Lib.hid hnx
      have hle := (HLL.out k hlt).1
      have hpos : ((gp ll k).length : Int) > 0 := by omega
      have HQ := Lib.hid hq
      have HKP := Lib.hid hkp
      have HO := Lib.hid hown
      clear hnx hval hbt hq hkp hown hbw hqn hrd
      go_wp2_with fail
      refine HX.out.mono ?_
      rintro e1 w1 ⟨rfl, hr1, hk1⟩
      have hdec : decide (0 < (gp ll k).length) = true := decide_eq_true hle
      have HR1 := Lib.hid hr1
      have HK1 := Lib.hid hk1
      clear hr1 hk1
      go_wp2_with fail
      refine (ask_ok _ _ _ _).mono ?_
      rintro e2 w2 ⟨rfl, rfl⟩
      have hown1 := HK1.out.owns HO.out (fun b hb e => by have := (HO.out.lt b hb).1; omega)
      have hbs : w.heap.size ≤ w2.heap.size := Nat.le_trans HKP.out.size HK1.out.size
      have hsb0 : 0 ≤ sumLen (ll.take k) := by unfold sumLen; omega
      have hsb1 : sumLen (ll.take k) ≤ 10000000000000 := by
        unfold sumLen
        have := flat_len (N := 4294967295) (fun i hi => by
          have := (HLL.out i hi).2
          rcases HNN.out with rfl | rfl <;> omega) k hk
        omega
      have hle2 : ((gp ll k).length : Int) ≤ 4294967295 := by
        have := (HLL.out k hlt).2
        rcases HNN.out with rfl | rfl <;> omega
      have HSN := Lib.hid (show sumLen (ll.take k) + ((gp ll k).length : Int) = sumLen (ll.take (k + 1)) from (sumLen_snoc hlt).symm)
      clear hdec
      go_wp2_with (refine wpList_append_rc rfl _ _ 43 rfl w.heap.size 3 i0 (.int .i64 0) 1 8 Try.underlying43 hi hz hsz hby3 rfl (by decide) _ k _ rfl (hown1.alloc _) _ 1 [.int .i64 ((gp ll k).length : Int)] rfl (rc_one _ _ _) (by intro u hu; have := List.mem_singleton.1 hu; subst this; rfl) (by unfold maxLen; omega) (by omega) (by simp; omega) ?_; intro v3 w3 hown3 hg3 _)
      refine ⟨⟨k + 1, q + n, by omega, by rw [HQ.out, Nat.mul_succ, Nat.add_assoc], by go_num, by rw [HSN.out], ?_, ?_, ?_⟩, by simp [intOf]; omega⟩
      · rw [lensOf_snoc hlt]
        simpa [intVals] using hown3
      · exact (HR1.out.alloc _).own hg3 (fun e => by have := (hown1.lt _ e).1; omega)
      · exact ((HKP.out.trans HK1.out).alloc _).own hg3 (fun b hb => (hown1.lt b hb).1)
    · have hk2 : k = ll.length := by omega
      subst hk2
      rw [List.take_length] at hown
      rw [List.take_length]
      obtain ⟨a1, c1, rfl⟩ := ownsRow_slice hown
      have HO := Lib.hid hown
      have HRD := Lib.hid hrd
      have HKP := Lib.hid hkp
      subst hq
      clear hown hrd hkp
      go_wp2_with fail
      go_ret2
      exact ⟨a1, c1, rfl, HO.out, HRD.out, HKP.out⟩

end Go.Proofs.Ytalhoahkbmeeeaa
