/- cut (36): parts of known lengths, taken into new memory. -/
import Derived.Test.YtalhoahkbmeeeaaSizes
import Derived.Deep.RegionHeld3
namespace Go.Proofs.Ytalhoahkbmeeeaa
open Go.RowKit

theorem gb_drop_take {l : List Int} {q m j : Nat} (h : j < m) (hl : q + m ≤ l.length) : ((l.drop q).take m)[j]? = some (gb l (q + j)) := by
  rw [List.getElem?_take_of_lt h, List.getElem?_drop, gb_eq (by omega), List.getElem?_eq_getElem]

/-- a piece of bytes reads as the piece -/
theorem RB.piece {w : World} {a : Option Addr} {n c : Nat} {l : List Int} (h : RB w (.slice a n c) l) {q m : Nat} (hl : q + m ≤ l.length) (a' : Option Addr) (c' : Nat) (hc : m ≤ c') (ha : 0 < m → a' = a.map (·.add q)) :
    RB w (.slice a' m c') ((l.drop q).take m) := by
  have hlen : ((l.drop q).take m).length = m := by rw [List.length_take, List.length_drop]; omega
  unfold RB
  rw [hlen]
  have hbl : (byteVals ((l.drop q).take m)).length = m := by unfold byteVals; rw [List.length_map, hlen]
  refine ⟨by rw [hbl, Nat.mul_one], a', c', rfl, hc, ?_⟩
  by_cases hm : m = 0
  · left
    subst hm
    simp [byteVals]
  · rcases h.cases with ⟨rfl, -⟩ | ⟨h0, b, off, cap, he, -, hcell⟩
    · simp at hl; omega
    · injection he with e1 e2 e3
      subst e1
      refine .inr ⟨b, off + q, by rw [ha (by omega)]; simp [addr_add], fun j hj => ?_⟩
      have hj' : j < m := by rwa [hbl] at hj
      have e := gb_drop_take hj' hl
      rw [Nat.add_assoc, hcell (q + j) (by omega)]
      congr 1
      simp only [byteVals, List.getElem_map]
      rw [List.getElem?_eq_getElem (by omega)] at e
      rw [Option.some.inj e]

theorem ue24 : Try.prog.underlying 24 = some (.slice (Try.prog.elem 24)) := by kernel_rfl

theorem sub_lhm {w : World} {a : Option Addr} {n c : Nat} {l : List Int} (h : RB w (.slice a n c) l) {q m : Nat} (hl : q + m ≤ l.length) :
    ∃ a', (∀ W, (Instr.sliceAt 24 (.slice a n c) (some (.int .i64 (q : Int))) (some (.int .i64 ((q : Int) + (m : Int)))) (some (.int .i64 ((q : Int) + (m : Int))))).run Try.prog W = .ok (.slice a' m m) W) ∧ RB w (.slice a' m m) ((l.drop q).take m) := by
  obtain ⟨i0, hi, hz, hsz, hby⟩ := info_parts info5
  have hn := h.n
  obtain ⟨-, _, _, he, hc, -⟩ := id h
  injection he with e1 e2 e3
  refine ⟨if q + m = q then a else a.map (·.add q), fun W => ?_, h.piece hl _ _ (Nat.le_refl _) (fun hm => by rw [if_neg (by omega)])⟩
  obtain ⟨s, hs⟩ : ∃ s : Int, s = (q : Int) + (m : Int) := ⟨_, rfl⟩
  have ht : s.toNat = q + m := by omega
  rw [← hs]
  have b1 : (0 : Int) ≤ s := by omega
  have b2 : s ≤ (c : Int) := by omega
  have b3 : s ≤ ((q + m : Nat) : Int) := by omega
  have b4 : (0 : Int) ≤ (q : Int) := by omega
  have b5 : (q : Int) ≤ ((q + m : Nat) : Int) := by omega
  rw [run_sliceAt_slice _ _ _ _ _ _ ue24]
  simp only [Instr.slice, run_underlying Try.underlying24, Instr.sliceBounds, Sem.run_bind, run_sliceBound _ _ _ _ _ b1 b2, Result.andThen_ok, ht, run_sliceBound _ _ _ _ _ b1 b3, run_sliceBound _ _ _ _ _ b4 b5, Sem.run_pure, sizeOf, typeInfo, Option.isSome, Int.toNat_natCast]
  simp [hsz, hi]

theorem sub_l {w : World} {a : Option Addr} {n c : Nat} {l : List Int} (h : RB w (.slice a n c) l) {q : Nat} (hl : q ≤ l.length) :
    ∃ a' c', (∀ W, (Instr.sliceAt 24 (.slice a n c) (some (.int .i64 (q : Int))) none none).run Try.prog W = .ok (.slice a' (l.length - q) c') W) ∧ RB w (.slice a' (l.length - q) c') (l.drop q) := by
  obtain ⟨i0, hi, hz, hsz, hby⟩ := info_parts info5
  have hn := h.n
  obtain ⟨-, _, _, he, hc, -⟩ := id h
  injection he with e1 e2 e3
  subst hn
  refine ⟨if c = q then a else a.map (·.add q), c - q, fun W => ?_, ?_⟩
  · have b4 : (0 : Int) ≤ (q : Int) := by omega
    have b5 : (q : Int) ≤ (l.length : Int) := by omega
    rw [run_sliceAt_slice _ _ _ _ _ _ ue24]
    simp [Instr.slice, run_underlying Try.underlying24, Instr.sliceBounds, run_sliceBound _ _ _ _ _ b4 b5, sizeOf, typeInfo, hi, hsz]
  · have := h.piece (q := q) (m := l.length - q) (by omega) (if c = q then a else a.map (·.add q)) (c - q) (by omega) (fun hm => by rw [if_neg (by omega)])
    rwa [List.take_of_length_le (by simp)] at this

/-- where the numbers of a slice of ints lie -/
theorem ints_at {w : World} {a : Option Addr} {n c : Nat} {zs : List Int} (h : RC w (.slice a n c) n 1 (intVals zs)) :
    n = zs.length ∧ ∃ b off, (∀ k : Nat, k < zs.length → ∀ W, (Instr.indexAt 43 (.slice a n c) (.int .i64 (k : Int))).run Try.prog W = .ok (.pointer (some ⟨b, off + k, none⟩)) W) ∧ (∀ k, k < zs.length → w.cell? ⟨b, off + k, none⟩ = some (.int .i64 (gb zs k))) ∧ ∀ g, a = some g → 0 < n → b = g.block := by
  obtain ⟨hl, a', c', he, hc, h0⟩ := h
  have hn : n = zs.length := by simpa [intVals] using hl.symm
  injection he with e1 e2 e3
  subst e1
  refine ⟨hn, ?_⟩
  rcases h0 with h0 | ⟨b, off, rfl, hj⟩
  · have : zs.length = 0 := by have := congrArg List.length h0; simpa [intVals] using this
    exact ⟨0, 0, fun k h => by omega, fun k h => by omega, fun g _ h => by omega⟩
  · refine ⟨b, off, fun k hk W => ?_, fun k hk => ?_, fun g hg _ => by injection hg with e; rw [← e]⟩
    · obtain ⟨i0, hi, hz, hsz, hby⟩ := info_parts info3
      have hk' : k < n := by omega
      simp [Instr.indexAt, asIntOf, run_underlying Try.underlying43, sizeOf, typeInfo, hi, hsz, hk', addr_add]
    · rw [hj k (by simpa [intVals] using hk)]
      simp [intVals, gb_eq hk]

theorem gb_lensOf {ll : List (List Int)} {k : Nat} (h : k < ll.length) : gb (lensOf ll) k = ((gp ll k).length : Int) := by
  rw [gb_eq (by rw [lensOf_len]; exact h), gp_eq h]; simp [lensOf]

theorem drop_flat {l rest : List Int} {p k : Nat} {ll : List (List Int)} (hd : l.drop p = ll.flatten ++ rest) (hk : k < ll.length) :
    (l.drop (p + (ll.take k).flatten.length)).take (gp ll k).length = gp ll k := by
  have e : ll = ll.take k ++ gp ll k :: ll.drop (k + 1) := by
    rw [gp_eq hk]; simp
  have e2 : ll.flatten = (ll.take k).flatten ++ (gp ll k ++ (ll.drop (k + 1)).flatten) := by
    conv => lhs; rw [e]
    simp
  rw [← List.drop_drop, hd, e2, List.append_assoc, List.drop_left, List.append_assoc, List.take_left]

theorem flat_take_le (ll : List (List Int)) {k : Nat} (hk : k < ll.length) : (ll.take k).flatten.length + (gp ll k).length ≤ ll.flatten.length := by
  have e : ll = ll.take k ++ gp ll k :: ll.drop (k + 1) := by
    rw [gp_eq hk]; simp
  have e2 : ll.flatten = (ll.take k).flatten ++ (gp ll k ++ (ll.drop (k + 1)).flatten) := by
    conv => lhs; rw [e]
    simp
  rw [e2]; simp only [List.length_append]; omega

/-- where the numbers lie that cut goes by -/
def IntsAt (w : World) (a : Option Addr) (n c : Nat) (zs : List Int) (g : Nat) : Prop := RC w (.slice a n c) n 1 (intVals zs) ∧ (∀ x, a = some x → x.block ≠ g ∧ x.block < w.heap.size)

set_option maxRecDepth 100000 in
set_option maxHeartbeats 3200000 in
theorem cut_ok {w0 w : World} {g : Nat} {v : Value} {l rest : List Int} {p : Nat} {ll : List (List Int)} {as_ : Option Addr} {cs : Nat} (h0 : RB w0 v l) (hb : Below w0.heap.size w0 w) (hg : w0.heap.size ≤ g) (hr : RD w g v (p : Int))
    (hd : l.drop p = ll.flatten ++ rest) (hp : p ≤ l.length) (hlen : l.length ≤ 1000000000) (hln : ll.length ≤ 1024)
    (hi : IntsAt w as_ ll.length cs (lensOf ll) g) :
    Calls Try.prog 36 #[.pointer (some ⟨g, 0, none⟩), .slice as_ ll.length cs] w fun e w' => ∃ v' vs, e = .returned v' ∧ OwnParts w' w.heap.size v' vs ll ∧ RD w' g v ((p + ll.flatten.length : Nat) : Int) ∧ Kp (· = g) w w' := by
  obtain ⟨a, c, rfl⟩ := RC.slice h0
  have hpl : p + ll.flatten.length ≤ l.length := by
    have : (l.drop p).length = ll.flatten.length + rest.length := by rw [hd, List.length_append]
    rw [List.length_drop] at this
    omega
  obtain ⟨hir, hia⟩ := hi
  obtain ⟨-, bi, oi, hix, hic, hib⟩ := ints_at hir
  rw [lensOf_len] at hix hic
  obtain ⟨i0, hi, hz, hsz, hby⟩ := info_parts info24
  have HIX := Lib.hid hix
  have hic' : ∀ W, Kp (· = g) w W → ∀ k, k < ll.length → W.cell? ⟨bi, oi + k, none⟩ = some (.int .i64 ((gp ll k).length : Int)) := fun W hW k hk => hW.cell (by rw [hic k hk, gb_lensOf hk]) (fun e => by
    cases has : as_ with
    | none =>
      rw [has] at hir
      obtain ⟨-, a', c', he, -, h1 | ⟨b1, o1, hb1, -⟩⟩ := hir
      · have := congrArg List.length h1
        simp [intVals, lensOf] at this
        rw [this] at hk
        simp at hk
      · injection he with e1
        rw [hb1] at e1
        cases e1
    | some x =>
      have h1 := hib x has (by omega)
      exact (hia x has).1 (h1 ▸ e))
  have HIC := Lib.hid hic'
  have HB := Lib.hid hb
  have HD := Lib.hid hd
  have HR := Lib.hid hr
  have HG := Lib.hid hg
  have HPL := Lib.hid hpl
  have H0 := Lib.hid h0
  have hgl := hr.lt
  clear hb h0 hd hpl hir hia hib hix hic hic' hr
  go_enter Try.func36, Try.ntmps36
  go_wp2_with fail
  go_loopw [5, 10] (fun r i wr => ∃ (k q : Nat) (vs : List Value), k ≤ ll.length ∧ q = p + (ll.take k).flatten.length ∧ i = .int .i64 k ∧ OwnParts wr w.heap.size r vs (ll.take k) ∧ RD wr g (.slice a l.length c) (q : Int) ∧ Kp (· = g) w wr) (fun _ i _ => ll.length - (intOf i).toNat)
  case atStart => exact ⟨0, p, [], by omega, by simp, rfl, by simpa using OwnParts.nil _ _, HR.out, Kp.refl _ _⟩
  case round =>
    obtain ⟨k, q, vs, hk, hq, rfl, hown, hrd, hkp⟩ := hrel
    by_cases hlt : k < ll.length
    · have hbw := HB.out.trans (hkp.below HB.out.size (fun b _ e => by have := HG.out; omega))
      have hqn : q + (gp ll k).length ≤ l.length := by
        have := HPL.out
        have := flat_take_le ll hlt
        omega
      have hix := HIX.out k hlt
      have hic := HIC.out wr hkp k hlt
      obtain ⟨a', hsl, hpc⟩ := sub_lhm (H0.out.below hbw (Nat.le_refl _)) hqn
      have hval : (l.drop q).take (gp ll k).length = gp ll k := by rw [hq, drop_flat HD.out hlt]
      rw [hval] at hpc
      have hpc0 := hpc
      have hq0 : (q : Int) ≤ 1000000000 := by omega
      have hm0 : ((gp ll k).length : Int) ≤ 1000000000 := by omega
      have hw1 : IntKind.i64.wrap ((q : Int) + ((gp ll k).length : Int)) = (q : Int) + ((gp ll k).length : Int) := IntWalk.i64_in _ (by omega)
      have HQ := Lib.hid hq
      have HKP := Lib.hid hkp
      have HO := Lib.hid hown
      have HRD := Lib.hid hrd
      obtain ⟨c0, c1, fz⟩ := hrd
      clear hval hq hkp hown hbw hqn hpc
      have HCL := Lib.hid (fun n => clone_bytes (w := wr.drewN n) (hpc0.below (drewN_below wr.heap.size wr n) (Nat.le_refl _)) (by omega))
      clear hpc0
      go_wp2_with fail
      have hkl : (ll.take k).length = k := by rw [List.length_take]; omega
      have HK := Lib.hid hkl
      clear hkl
      have kS : wr.drew.cell? ⟨g, 0, none⟩ = some (.slice a l.length c) ∧ wr.drew.cell? ⟨g, 1, none⟩ = some (.int .i64 (q : Int)) := ⟨c0, c1⟩
      go_region_held3 (fun w' => w'.cell? ⟨g, 0, none⟩ = some (.slice a l.length c) ∧ w'.cell? ⟨g, 1, none⟩ = some (.int .i64 (q : Int)))
        (first | with_reducible exact ⟨c0, c1⟩ | with_reducible exact kS | exact ⟨Kp.cell ((Kp.refl (fun _ => False) _).alloc _) kS.1 (fun h => h), Kp.cell ((Kp.refl (fun _ => False) _).alloc _) kS.2 (fun h => h)⟩)
        (first
          | (go_at_call 37
             refine (HCL.out 1).mono ?_
             rintro e1 w1 ⟨a1, c1', rfl, ho1, hb1⟩
             have kS : w1.cell? ⟨g, 0, none⟩ = some (.slice a l.length c) ∧ w1.cell? ⟨g, 1, none⟩ = some (.int .i64 (q : Int)) := ⟨cell_below hb1 (Nat.le_refl _) c0, cell_below hb1 (Nat.le_refl _) c1⟩
             have hrow := ownsRow_below (((Kp.refl (fun _ => False) wr).drewN 1).owns HO.out.row (fun _ _ h => h)) hb1 (Nat.le_refl _)
             rw [HK.out] at hrow
             have hrow2 := hrow.alloc (.cells #[.slice a1 (gp ll k).length c1'] 24)
             have hnew : RC (w1.alloc (.cells #[.slice a1 (gp ll k).length c1'] 24)) (.slice (some ⟨w1.heap.size, 0, none⟩) 1 1) 1 1 [.slice a1 (gp ll k).length c1'] := rc_one _ _ _
             have hone : ∀ u ∈ [Value.slice a1 (gp ll k).length c1'], u.oneCell' = true := by
               intro u hu
               have := List.mem_singleton.1 hu
               subst this
               rfl
             have hs1 := hb1.size
             have hs2 := HKP.out.size)
          | (refine step_append_rc rfl (.tmp 14) (.tmp 37) 23 rfl w.heap.size 24 i0 (.slice none 0 0) 1 24 Try.underlying23 hi hz hsz hby rfl (by decide) _ k vs rfl hrow2 _ 1 [.slice a1 (gp ll k).length c1'] rfl hnew hone (by unfold maxLen; omega) (by omega) (by simp; simp at hs1; omega) ?_
             intro v' w3 hown3 hg3 hat3
             have hrd3 : RD w3 g (.slice a l.length c) (q : Int) := (((HRD.out.drewN 1).kp (Kp.ofBelow (S := fun _ => False) hb1) (fun h => h)).alloc _).own hg3 (fun e => by have := (hrow2.lt _ e).1; omega)
             have kS : w3.cell? ⟨g, 0, none⟩ = some (.slice a l.length c) ∧ w3.cell? ⟨g, 1, none⟩ = some (.int .i64 (q : Int)) := ⟨hrd3.c0, hrd3.c1⟩))
      have hown4 : OwnParts w3 w.heap.size v' (vs ++ [.slice a1 (gp ll k).length c1']) (ll.take (k + 1)) := by
        rw [take_snoc_gp hlt]
        exact HO.out.snoc (.cells #[.slice a1 (gp ll k).length c1'] 24) hs2 ⟨hb1.os, hb1.tape, hb1.output, hb1.size, hb1.block⟩ ho1 (by rw [HK.out]; exact hown3) hg3 hat3
      have hk4 : Kp (· = g) w w3 := (((HKP.out.drewN 1).trans (Kp.ofBelow hb1)).alloc _).own hg3 (fun b hb => (hrow2.lt b hb).1)
      have HO4 := Lib.hid hown4
      have HK4 := Lib.hid hk4
      have HR3 := Lib.hid hrd3
      obtain ⟨d0, d1, dz⟩ := hrd3
      clear kS c0 c1 fz hown4 hk4 hrow hrow2 hnew hone ho1 hb1 hown3 hg3 hat3
      go_wp2_with fail
      have hq1 : (q : Int) + ((gp ll k).length : Int) = ((q + (gp ll k).length : Nat) : Int) := by omega
      obtain ⟨n1, n2⟩ := not_over HO4.out (g := g) hgl
      refine ⟨⟨k + 1, q + (gp ll k).length, _, by omega, by rw [HQ.out, flat_snoc hlt, List.length_append, Nat.add_assoc], by go_num, HO4.out.setCell_ne (a := ⟨g, 1, none⟩) n1 n2 _, ?_, HK4.out.setCell rfl _⟩, by simp [intOf]; omega⟩
      rw [hq1]
      exact HR3.out.set _
    · have hk2 : k = ll.length := by omega
      subst hk2
      rw [List.take_length] at hown hq
      have HO := Lib.hid hown
      have HRD := Lib.hid hrd
      have HKP := Lib.hid hkp
      subst hq
      clear hown hrd hkp
      go_wp2_with fail
      go_ret
      exact ⟨_, vs, rfl, HO.out, HRD.out, HKP.out⟩

end Go.Proofs.Ytalhoahkbmeeeaa
