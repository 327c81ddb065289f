/- Size (26) of a container that may be: OK, and a number that is not negative and not great. -/
import Derived.Test.YtalhoahkbmeeeaaCheck
namespace Go.Proofs.Ytalhoahkbmeeeaa
open Go.RowKit

set_option maxRecDepth 100000 in
set_option maxHeartbeats 3200000 in
theorem size_any {w : World} {v : Value} {c : Cn} (h : RCn w v c) (hm : c.may) (hsm : c.small 2097152) :
    Calls Try.prog 26 #[v] w fun e w' => ∃ n : Int, 0 ≤ n ∧ n ≤ 1000000000 ∧ e = .returned (.tuple #[.int .i64 n, .int .i64 0]) ∧ Below w.heap.size w w' := by
  obtain ⟨at_, ct, ac, cc, as_, cs, ad, cd, rfl, h1, h2, h3, h4⟩ := h.open
  obtain ⟨W1, hW1⟩ : ∃ W1, W1 = w.alloc (.cells #[.slice at_ c.ts.length ct, .slice ac c.codes.length cc, .slice as_ c.subs.length cs, .slice ad c.data.length cd, .int .i64 c.size] 26) := ⟨_, rfl⟩
  have hB : Below w.heap.size w W1 := by rw [hW1]; exact boxed1 w _
  have b0 : W1.cell? ⟨w.heap.size, 0, none⟩ = some (.slice at_ c.ts.length ct) := by rw [hW1, World.cell?_alloc_at _ _ _ _ rfl]; rfl
  have b1 : W1.cell? ⟨w.heap.size, 1, none⟩ = some (.slice ac c.codes.length cc) := by rw [hW1, World.cell?_alloc_at _ _ _ _ rfl]; rfl
  have b2 : W1.cell? ⟨w.heap.size, 2, none⟩ = some (.slice as_ c.subs.length cs) := by rw [hW1, World.cell?_alloc_at _ _ _ _ rfl]; rfl
  have b3 : W1.cell? ⟨w.heap.size, 3, none⟩ = some (.slice ad c.data.length cd) := by rw [hW1, World.cell?_alloc_at _ _ _ _ rfl]; rfl
  have b4 : W1.cell? ⟨w.heap.size, 4, none⟩ = some (.int .i64 c.size) := by rw [hW1, World.cell?_alloc_at _ _ _ _ rfl]; rfl
  have hz1 : W1.heap.size = w.heap.size + 1 := by rw [hW1]; simp
  have HC := Lib.hid (check_any (h.below hB (Nat.le_refl _)) hm)
  have H2 := Lib.hid (h2.below hB (Nat.le_refl _))
  have H3 := Lib.hid (h3.below hB (Nat.le_refl _))
  have HB := Lib.hid hB
  have B1 := Lib.hid b1
  have B2 := Lib.hid b2
  have B3 := Lib.hid b3
  have HM := Lib.hid hm
  have HSM := Lib.hid hsm
  have m1 := hm.codes2
  have m2 := hm.subs
  have m4 := hsm.data
  clear hB b1 b2 b3 hm hsm h1 h2 h3 h4 h
  go_enter Try.func26, Try.ntmps26
  go_wp2_with fail
  have HZ := Lib.hid hz1
  rw [← hW1]
  clear b0 b4 hW1 hz1
  refine HC.out.mono ?_
  rintro e w1 ⟨rfl, hb1⟩
  have k1 := cell_below hb1 (Nat.le_refl _) B1.out
  have k2 := cell_below hb1 (Nat.le_refl _) B2.out
  have k3 := cell_below hb1 (Nat.le_refl _) B3.out
  obtain ⟨-, bc, oc, uc, -, hci, hcc, hcr⟩ := (H2.out.below hb1 (Nat.le_refl _)).at
  obtain ⟨-, bs, os, us, -, hsi, hsc, hsr⟩ := (H3.out.below hb1 (Nat.le_refl _)).at
  have hcl : ∀ k, k < c.codes.length → ∃ a cp, gv uc k = .slice a (gp c.codes k).length cp := fun k hk => (hcr k hk).len
  have hsl : ∀ k, k < c.subs.length → ∃ a cp, gv us k = .slice a (gp c.subs k).length cp := fun k hk => (hsr k hk).len
  have HCI := Lib.hid hci
  have HSI := Lib.hid hsi
  have HCC := Lib.hid hcc
  have HSC := Lib.hid hsc
  have HCL := Lib.hid hcl
  have HSL := Lib.hid hsl
  have HBZ := Lib.hid (HB.out.trans (hb1.mono (by have := HZ.out; omega)))
  clear hcr hsr hci hcc hsi hsc hcl hsl hb1
  go_wp2_with fail
  go_loop [5, 27] (fun n i => ∃ (k : Nat) (m : Int), k ≤ c.codes.length ∧ i = .int .i64 k ∧ n = .int .i64 m ∧ 0 ≤ m ∧ m ≤ 10000000 + (k : Int) * 65535) (fun _ i => c.codes.length - (intOf i).toNat)
  case atStart => exact ⟨0, _, by omega, rfl, rfl, by omega, by omega⟩
  case round =>
    obtain ⟨k, m, hk, rfl, rfl, p0, p1⟩ := hrel
    by_cases hlt : k < c.codes.length
    · have hci := HCI.out k hlt
      have hcc := HCC.out k hlt
      obtain ⟨ae, ce, hge⟩ := HCL.out k hlt
      rw [hge] at hcc
      clear hge
      have hml := HM.out.code2 k hlt
      go_wp2
      refine ⟨⟨k + 1, m + ((gp c.codes k).length : Int), by omega, by go_num, rfl, by omega, by omega⟩, by simp [intOf]; omega⟩
    · have p2 : m ≤ 80000000 := by omega
      clear p1
      by_cases h0 : 0 < c.subs.length
      all_goals
        go_wp2_with fail
        go_loop [5, 50] (fun n i => ∃ (k : Nat) (m : Int), k ≤ c.subs.length ∧ i = .int .i64 k ∧ n = .int .i64 m ∧ 0 ≤ m ∧ m ≤ 90000000 + (k : Int) * 2097152) (fun _ i => c.subs.length - (intOf i).toNat)
        case atStart => exact ⟨0, _, by omega, rfl, rfl, by omega, by omega⟩
        case round =>
          clear p0 p2
          obtain ⟨k', m', hk', rfl, rfl, p0, p1⟩ := hrel
          by_cases hlt' : k' < c.subs.length
          · have hsi := HSI.out k' hlt'
            have hsc := HSC.out k' hlt'
            obtain ⟨ae, ce, hge⟩ := HSL.out k' hlt'
            rw [hge] at hsc
            clear hge
            have hml := HSM.out.sub k' hlt'
            go_wp2
            refine ⟨⟨k' + 1, m' + ((gp c.subs k').length : Int), by omega, by go_num, rfl, by omega, by omega⟩, by simp [intOf]; omega⟩
          · go_wp2
            go_ret2
            exact ⟨m', by omega, by omega, rfl, HBZ.out⟩

end Go.Proofs.Ytalhoahkbmeeeaa
