/- may (7): where it tells true the container may be one. -/
import Derived.Test.YtalhoahkbmeeeaaWeight
namespace Go.Proofs.Ytalhoahkbmeeeaa
open Go.RowKit

/-- a container that may be -/
structure Cn.may (c : Cn) : Prop where
  codes1 : 1 ≤ c.codes.length
  codes2 : c.codes.length ≤ 1024
  types : c.ts.length = c.codes.length
  subs : c.subs.length ≤ 256
  data : (c.data.length : Int) ≤ c.size
  size : c.size ≤ 65535
  code1 : ∀ k, k < c.codes.length → 1 ≤ (gp c.codes k).length
  code2 : ∀ k, k < c.codes.length → (gp c.codes k).length ≤ 65535
  in1 : ∀ k, k < c.codes.length → 0 ≤ (gt c.ts k).1
  in2 : ∀ k, k < c.codes.length → (gt c.ts k).1 ≤ 127
  out1 : ∀ k, k < c.codes.length → 0 ≤ (gt c.ts k).2.1
  out2 : ∀ k, k < c.codes.length → (gt c.ts k).2.1 ≤ 128
  most1 : ∀ k, k < c.codes.length → 0 ≤ (gt c.ts k).2.2
  most2 : ∀ k, k < c.codes.length → (gt c.ts k).2.2 ≤ 1023
  sub1 : ∀ k, k < c.subs.length → 1 ≤ (gp c.subs k).length
  sub2 : ∀ k, k < c.subs.length → (gp c.subs k).length ≤ 4294967295
  first1 : (gt c.ts 0).1 = 0
  first2 : (gt c.ts 0).2.1 = 128

theorem RT.at {w : World} {a : Option Addr} {n c : Nat} {ts : List Ty} (h : RT w (.slice a n c) ts) :
    n = ts.length ∧ ∃ b off, (∀ k : Nat, k < ts.length → ∀ W, (Instr.indexAt 22 (.slice a n c) (.int .i64 (k : Int))).run Try.prog W = .ok (.pointer (some ⟨b, off + k * 3, none⟩)) W) ∧ TyAt w b off ts ts.length := by
  rcases h.cases with ⟨rfl, a', c', he⟩ | ⟨h0, b, off, c', he, -, ht⟩
  · injection he with e1 e2 e3
    exact ⟨e2, 0, 0, fun k h => by simp at h, fun k h => by simp at h⟩
  · injection he with e1 e2 e3
    subst e1 e2
    refine ⟨rfl, b, off, fun k hk W => ?_, ht⟩
    obtain ⟨i0, hi, hz, hsz, hby⟩ := info_parts info53
    simp [Instr.indexAt, asIntOf, run_underlying Try.underlying22, sizeOf, typeInfo, hi, hsz, hk, addr_add]

/-- what has been found right of the sections ahead of the k-th -/
structure Cn.mayTo (c : Cn) (k : Nat) : Prop where
  code1 : ∀ j, j < k → 1 ≤ (gp c.codes j).length
  code2 : ∀ j, j < k → (gp c.codes j).length ≤ 65535
  in1 : ∀ j, j < k → 0 ≤ (gt c.ts j).1
  in2 : ∀ j, j < k → (gt c.ts j).1 ≤ 127
  out1 : ∀ j, j < k → 0 ≤ (gt c.ts j).2.1
  out2 : ∀ j, j < k → (gt c.ts j).2.1 ≤ 128
  most1 : ∀ j, j < k → 0 ≤ (gt c.ts j).2.2
  most2 : ∀ j, j < k → (gt c.ts j).2.2 ≤ 1023

theorem upto_succ {P : Nat → Prop} {k : Nat} (h : ∀ j, j < k → P j) (hk : P k) : ∀ j, j < k + 1 → P j := fun j hj => by
  by_cases e : j = k
  · rw [e]; exact hk
  · exact h j (by omega)

/-- a Bool that tells true at most where the container may be -/
def MayPost (w : World) (c : Cn) (e : Ending) (w' : World) : Prop := ∃ b : Bool, e = .returned (.bool b) ∧ (b = true → c.may) ∧ Below w.heap.size w w'

theorem may_no {w : World} {c : Cn} {w' : World} (hb : Below w.heap.size w w') : MayPost w c (.returned (.bool false)) w' :=
  ⟨false, rfl, fun h => by simp at h, hb⟩

set_option maxRecDepth 100000 in
set_option maxHeartbeats 6400000 in
theorem may_any {w : World} {v : Value} {c : Cn} (h : RCn w v c) (hm : c.small 1000000000) :
    Calls Try.prog 7 #[v] w fun e w' => MayPost w c e w' := by
  obtain ⟨at_, ct, ac, cc, as_, cs, ad, cd, rfl, h1, h2, h3, h4⟩ := h.open
  have hB := boxed1 w #[.slice at_ c.ts.length ct, .slice ac c.codes.length cc, .slice as_ c.subs.length cs, .slice ad c.data.length cd, .int .i64 c.size]
  obtain ⟨-, bc, oc, uc, -, hci, hcc, hcr⟩ := (h2.below hB (Nat.le_refl _)).at
  obtain ⟨-, bs, os, us, -, hsi, hsc, hsr⟩ := (h3.below hB (Nat.le_refl _)).at
  obtain ⟨-, bt, ot, hti, htc⟩ := (h1.below hB (Nat.le_refl _)).at
  have HB := Lib.hid hB
  have hcl : ∀ k, k < c.codes.length → ∃ a cp, gv uc k = .slice a (gp c.codes k).length cp := fun k hk => (hcr k hk).len
  have hsl : ∀ k, k < c.subs.length → ∃ a cp, gv us k = .slice a (gp c.subs k).length cp := fun k hk => (hsr k hk).len
  have HCI := Lib.hid hci
  have HSI := Lib.hid hsi
  have HTI := Lib.hid hti
  have HCC := Lib.hid hcc
  have HSC := Lib.hid hsc
  have HTC := Lib.hid htc
  have HCL := Lib.hid hcl
  have HSL := Lib.hid hsl
  have HM := Lib.hid hm
  obtain ⟨m1, m2, m3, m4, -, -⟩ := hm
  clear hB h1 h2 h3 h4 hci hcc hcr hsi hsc hsr hcl hsl hti htc
  go_enter Try.func7, Try.ntmps7
  by_cases t1 : 1 ≤ c.codes.length
  rotate_left
  · go_wp2
    go_ret
    exact may_no HB.out
  by_cases t2 : c.codes.length ≤ 1024
  rotate_left
  · go_wp2
    go_ret
    exact may_no HB.out
  by_cases t3 : c.ts.length = c.codes.length
  rotate_left
  · have q3 : ((c.ts.length : Int) != (c.codes.length : Int)) = true := by rw [bne_iff_ne]; omega
    clear t3
    go_wp2
    go_ret
    exact may_no HB.out
  have q3 : ((c.ts.length : Int) != (c.codes.length : Int)) = false := by rw [bne_eq_false_iff_eq]; omega
  have T3 := Lib.hid t3
  clear t3
  by_cases t4 : c.subs.length ≤ 256
  rotate_left
  · go_wp2
    go_ret
    exact may_no HB.out
  by_cases t5 : (c.data.length : Int) ≤ c.size
  rotate_left
  · go_wp2
    go_ret
    exact may_no HB.out
  by_cases t6 : c.size ≤ 65535
  rotate_left
  · go_wp2
    go_ret
    exact may_no HB.out
  go_wp2
  obtain ⟨W1, hW1⟩ : ∃ W1, W1 = w.alloc (.cells #[.slice at_ c.ts.length ct, .slice ac c.codes.length cc, .slice as_ c.subs.length cs, .slice ad c.data.length cd, .int .i64 c.size] 26) := ⟨_, rfl⟩
  have hz1 : W1.heap.size = w.heap.size + 1 := by rw [hW1]; simp
  have b0 : W1.cell? ⟨w.heap.size, 0, none⟩ = some (.slice at_ c.ts.length ct) := by rw [hW1, World.cell?_alloc_at _ _ _ _ rfl]; rfl
  have b1 : W1.cell? ⟨w.heap.size, 1, none⟩ = some (.slice ac c.codes.length cc) := by rw [hW1, World.cell?_alloc_at _ _ _ _ rfl]; rfl
  have b2 : W1.cell? ⟨w.heap.size, 2, none⟩ = some (.slice as_ c.subs.length cs) := by rw [hW1, World.cell?_alloc_at _ _ _ _ rfl]; rfl
  rw [← hW1] at HB HCC HSC HTC
  rw [← hW1]
  have HZ := Lib.hid hz1
  have B0 := Lib.hid b0
  have B1 := Lib.hid b1
  have B2 := Lib.hid b2
  clear hW1 hz1 b0 b1 b2
  go_loopw [3, 4] (fun i _ wr => ∃ k : Nat, k ≤ c.codes.length ∧ i = .int .i64 k ∧ c.mayTo k ∧ Below W1.heap.size W1 wr) (fun i _ _ => c.codes.length - (intOf i).toNat)
  case atStart => exact ⟨0, by omega, rfl, ⟨fun j h => by omega, fun j h => by omega, fun j h => by omega, fun j h => by omega, fun j h => by omega, fun j h => by omega, fun j h => by omega, fun j h => by omega⟩, Below.refl _ _⟩
  case round =>
    obtain ⟨k, hk, rfl, hto, hbel⟩ := hrel
    have HTO := Lib.hid hto
    have HBEL := Lib.hid hbel
    have b0 := cell_below hbel (Nat.le_refl _) B0.out
    have b1 := cell_below hbel (Nat.le_refl _) B1.out
    have b2 := cell_below hbel (Nat.le_refl _) B2.out
    clear hto
    by_cases hlt : k < c.codes.length
    · have hlt' : k < c.ts.length := by have := T3.out; omega
      have hci := HCI.out k hlt
      have hti := HTI.out k hlt'
      have hcc := cell_below hbel (Nat.le_refl _) (HCC.out k hlt)
      obtain ⟨t1', t2', t3'⟩ := HTC.out.below hbel (Nat.le_refl _) k hlt'
      obtain ⟨ae, ce, hge⟩ := HCL.out k hlt
      rw [hge] at hcc
      clear hge hbel
      have hml := HM.out.code k hlt
      have hbw : w.heap.size < wr.heap.size := World.block_lt_of_cell? wr _ b0
      have hbc : bc < wr.heap.size := World.block_lt_of_cell? wr _ hcc
      have hbb : ∀ o, Below w.heap.size w (wr.alloc o) := fun o => HB.out.trans ((HBEL.out.mono (by have := HZ.out; omega)).trans ((Below.refl _ _).alloc (by omega) o))
      have hbe : ∀ o, Below W1.heap.size W1 (wr.alloc o) := fun o => HBEL.out.trans ((Below.refl _ _).alloc HBEL.out.size o)
      have HBB := Lib.hid hbb
      have HBE := Lib.hid hbe
      clear hbb hbe
      go_wp2
      all_goals first
        | (go_ret; exact may_no (HBB.out _))
        | (refine ⟨⟨k + 1, by omega, by go_num, ⟨upto_succ HTO.out.code1 (by omega), upto_succ HTO.out.code2 (by omega), upto_succ HTO.out.in1 (by omega), upto_succ HTO.out.in2 (by omega), upto_succ HTO.out.out1 (by omega), upto_succ HTO.out.out2 (by omega), upto_succ HTO.out.most1 (by omega), upto_succ HTO.out.most2 (by omega)⟩, HBE.out _⟩, by simp [intOf]; omega⟩)
    · have hk2 : k = c.codes.length := by omega
      subst hk2
      have HBX := Lib.hid (HB.out.trans (hbel.mono (by have := HZ.out; omega)) : Below w.heap.size w wr)
      go_wp2
      go_loop [5] (fun i => ∃ k : Nat, k ≤ c.subs.length ∧ i = .int .i64 k ∧ (∀ j, j < k → 1 ≤ (gp c.subs j).length) ∧ (∀ j, j < k → (gp c.subs j).length ≤ 4294967295)) (fun i => c.subs.length - (intOf i).toNat)
      case atStart => exact ⟨0, by omega, rfl, fun j h => by omega, fun j h => by omega⟩
      case round =>
        obtain ⟨k', hk', rfl, s1, s2⟩ := hrel
        have S1 := Lib.hid s1
        have S2 := Lib.hid s2
        clear s1 s2
        by_cases hlt' : k' < c.subs.length
        · have hsi := HSI.out k' hlt'
          have hsc := cell_below hbel (Nat.le_refl _) (HSC.out k' hlt')
          obtain ⟨ae, ce, hge⟩ := HSL.out k' hlt'
          rw [hge] at hsc
          clear hge hbel
          have hml := HM.out.sub k' hlt'
          go_wp2
          all_goals first
            | (go_ret; exact may_no HBX.out)
            | (refine ⟨⟨k' + 1, by omega, by go_num, upto_succ S1.out (by omega), upto_succ S2.out (by omega)⟩, by simp [intOf]; omega⟩)
        · have hk2 : k' = c.subs.length := by omega
          subst hk2
          have h0 : 0 < c.ts.length := by have := T3.out; omega
          have hti := HTI.out 0 h0
          obtain ⟨t1', t2', -⟩ := HTC.out.below hbel (Nat.le_refl _) 0 h0
          rw [Nat.zero_mul, Nat.add_zero] at t1' t2'
          simp only [Nat.zero_mul, Nat.add_zero, Int.natCast_zero] at hti
          clear hbel
          by_cases e1 : (gt c.ts 0).1 = 0
          · have f1 : ((gt c.ts 0).1 == 0) = true := by rw [beq_iff_eq]; exact e1
            have E1 := Lib.hid e1
            clear e1
            by_cases e2 : (gt c.ts 0).2.1 = 128
            · have f2 : ((gt c.ts 0).2.1 == 128) = true := by rw [beq_iff_eq]; exact e2
              have E2 := Lib.hid e2
              clear e2
              go_wp2
              go_ret
              have hto := HTO.out
              exact ⟨true, rfl, fun _ => ⟨t1, t2, T3.out, t4, t5, t6, hto.code1, hto.code2, hto.in1, hto.in2, hto.out1, hto.out2, hto.most1, hto.most2, S1.out, S2.out, E1.out, E2.out⟩, HBX.out⟩
            · have f2 : ((gt c.ts 0).2.1 == 128) = false := by rw [beq_eq_false_iff_ne]; exact e2
              clear e2
              go_wp2
              go_ret
              exact may_no HBX.out
          · have f1 : ((gt c.ts 0).1 == 0) = false := by rw [beq_eq_false_iff_ne]; exact e1
            clear e1
            go_wp2
            go_ret
            exact may_no HBX.out

end Go.Proofs.Ytalhoahkbmeeeaa
