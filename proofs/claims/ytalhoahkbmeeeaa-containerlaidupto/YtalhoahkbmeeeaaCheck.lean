/- Check (21) of a container that may be: OK. -/
import Derived.Test.YtalhoahkbmeeeaaBounds
namespace Go.Proofs.Ytalhoahkbmeeeaa
open Go.RowKit

theorem bi0 (w : World) : (Instr.index 84 (.agg #[.int .i64 1, .func (.func 41) #[] #[], .func (.func 42) #[] #[], .int .i64 1, .func (.func 43) #[] #[], .func (.func 44) #[] #[], .int .i64 2, .func (.func 45) #[] #[], .func (.func 46) #[] #[]]) (.int .i64 0)).run Try.prog w = .ok (.agg #[.int .i64 1, .func (.func 41) #[] #[], .func (.func 42) #[] #[]]) w := by kernel_rfl
theorem bi1 (w : World) : (Instr.index 84 (.agg #[.int .i64 1, .func (.func 41) #[] #[], .func (.func 42) #[] #[], .int .i64 1, .func (.func 43) #[] #[], .func (.func 44) #[] #[], .int .i64 2, .func (.func 45) #[] #[], .func (.func 46) #[] #[]]) (.int .i64 1)).run Try.prog w = .ok (.agg #[.int .i64 1, .func (.func 43) #[] #[], .func (.func 44) #[] #[]]) w := by kernel_rfl
theorem bi2 (w : World) : (Instr.index 84 (.agg #[.int .i64 1, .func (.func 41) #[] #[], .func (.func 42) #[] #[], .int .i64 1, .func (.func 43) #[] #[], .func (.func 44) #[] #[], .int .i64 2, .func (.func 45) #[] #[], .func (.func 46) #[] #[]]) (.int .i64 2)).run Try.prog w = .ok (.agg #[.int .i64 2, .func (.func 45) #[] #[], .func (.func 46) #[] #[]]) w := by kernel_rfl

theorem quiet_add_same {P : Program} {f : FuncId} {args : Array Value} {w : World} {a n : Nat} {v : Value}
    (h : Calls P f args (w.drewN (a + n)) fun e w' => e = .returned v ∧ w' = w.drewN (a + n)) :
    Calls P f args (w.drewN (a + n)) fun e w'' => e = .returned v ∧ ∃ m, w'' = w.drewN (a + m) :=
  h.mono fun _ _ ⟨he, hm⟩ => ⟨he, n, hm⟩

set_option maxRecDepth 100000 in
set_option maxHeartbeats 3200000 in
theorem check_any {w : World} {v : Value} {c : Cn} (h : RCn w v c) (hm : c.may) :
    Calls Try.prog 21 #[v] w fun e w' => e = .returned (.int .i64 0) ∧ Below w.heap.size w w' := by
  obtain ⟨at_, ct, ac, cc, as_, cs, ad, cd, rfl, h1, h2, h3, h4⟩ := h.open
  have hB := boxed1 w #[.slice at_ c.ts.length ct, .slice ac c.codes.length cc, .slice as_ c.subs.length cs, .slice ad c.data.length cd, .int .i64 c.size]
  obtain ⟨-, bt, ot, hti, htc⟩ := (h1.below hB (Nat.le_refl _)).at
  have PC := Lib.hid (parts_any (most := 65535) (h2.below hB (Nat.le_refl _)) (by have := hm.codes2; omega) hm.code1 (fun k hk => by have := hm.code2 k hk; omega) (fun k hk => by have := hm.code2 k hk; omega))
  have PS := Lib.hid (parts_any (most := 4294967295) (h3.below hB (Nat.le_refl _)) (by have := hm.subs; omega) hm.sub1 (fun k hk => by have := hm.sub2 k hk; omega) hm.sub2)
  have HB := Lib.hid hB
  have HTI := Lib.hid hti
  have HTC := Lib.hid htc
  have HM := Lib.hid hm
  have q1 : ((c.codes.length : Int) == 0) = false := by rw [beq_eq_false_iff_ne]; have := hm.codes1; omega
  have q2 : (c.codes.length : Int) ≤ 1024 := by have := hm.codes2; omega
  have q3 : ((c.ts.length : Int) != (c.codes.length : Int)) = false := by rw [bne_eq_false_iff_eq]; have := hm.types; omega
  have q4 : (c.subs.length : Int) ≤ 256 := by have := hm.subs; omega
  have q5 := hm.size
  have q6 := hm.data
  have q7 : c.ts.length ≤ 1024 := by have := hm.types; have := hm.codes2; omega
  clear hB h1 h2 h3 h4 hti htc hm
  go_enter Try.func21, Try.ntmps21
  go_wp2_with fail
  refine PC.out.mono ?_
  rintro e w1 ⟨rfl, rfl⟩
  go_wp2_with fail
  refine PS.out.mono ?_
  rintro e w1 ⟨rfl, rfl⟩
  go_wp2_with fail
  obtain ⟨W1, hW1⟩ : ∃ W1, W1 = w.alloc (.cells #[.slice at_ c.ts.length ct, .slice ac c.codes.length cc, .slice as_ c.subs.length cs, .slice ad c.data.length cd, .int .i64 c.size] 26) := ⟨_, rfl⟩
  have b0 : W1.cell? ⟨w.heap.size, 0, none⟩ = some (.slice at_ c.ts.length ct) := by rw [hW1, World.cell?_alloc_at _ _ _ _ rfl]; rfl
  have hz1 : W1.heap.size = w.heap.size + 1 := by rw [hW1]; simp
  rw [← hW1] at HB HTC
  rw [← hW1]
  have B0 := Lib.hid b0
  have HZ := Lib.hid hz1
  clear hW1 b0 hz1 PC PS
  go_loopw [58] (fun i wr => ∃ k : Nat, k ≤ c.ts.length ∧ i = .int .i64 k ∧ Below W1.heap.size W1 wr) (fun i _ => c.ts.length - (intOf i).toNat)
  case atStart => exact ⟨0, by omega, rfl, Below.refl _ _⟩
  case round =>
    obtain ⟨k, hk, rfl, hbel⟩ := hrel
    have HBEL := Lib.hid hbel
    have b0 := cell_below hbel (Nat.le_refl _) B0.out
    by_cases hlt : k < c.ts.length
    · have hti := HTI.out k hlt
      obtain ⟨t1', t2', t3'⟩ := HTC.out.below hbel (Nat.le_refl _) k hlt
      have hlc : k < c.codes.length := by have := HM.out.types; omega
      have HF := Lib.hid hlc
      clear hbel hlc
      go_wp2_with fail
      refine (bounds_any _).mono ?_
      unfold boundsVal
      rintro e w2 ⟨rfl, hb2⟩
      have hs2 := hb2.size
      simp only [World.size_alloc] at hs2
      have c0 : w2.cell? ⟨wr.heap.size, 0, none⟩ = some (.int .i64 (gt c.ts k).1) := cell_below hb2 (Nat.le_refl _) (by rw [World.cell?_alloc_at _ _ _ _ rfl]; rfl)
      have c1 : w2.cell? ⟨wr.heap.size, 1, none⟩ = some (.int .i64 (gt c.ts k).2.1) := cell_below hb2 (Nat.le_refl _) (by rw [World.cell?_alloc_at _ _ _ _ rfl]; rfl)
      have c2 : w2.cell? ⟨wr.heap.size, 2, none⟩ = some (.int .i64 (gt c.ts k).2.2) := cell_below hb2 (Nat.le_refl _) (by rw [World.cell?_alloc_at _ _ _ _ rfl]; rfl)
      have hlw : wr.heap.size < w2.heap.size := by omega
      have i0 := bi0
      have i1 := bi1
      have i2 := bi2
      go_wp2_with fail
      refine wp_loop_rounds 4 ?_
      rw [rounds_succ]
      go_wp2_with fail
      go_quiet (first | (go_at_call 42; exact Calls.quiet_of_same (value42 _ _ _)) | (go_at_call 41; exact Calls.quiet_of_same (fits41 _ _ _ (HM.out.in1 k HF.out) (HM.out.in2 k HF.out) (fun h => by
        have : k = 0 := by simpa using h
        subst this
        exact HM.out.first1))))
      go_wp2_with fail
      rw [rounds_succ]
      obtain ⟨w3, hw3⟩ : ∃ w3, w3 = (w2.alloc (.cells #[.int .i64 1, .func (.func 41) #[] #[], .func (.func 42) #[] #[]] 83)).drewN nq := ⟨_, rfl⟩
      have hb3 : Below w2.heap.size w2 w3 := by rw [hw3]; exact (((Below.refl _ _).alloc (Nat.le_refl _) _).trans (drewN_below _ _ _))
      rw [← hw3]
      have hs3 := hb3.size
      have d1 := cell_below hb3 (Nat.le_refl _) c1
      have d2 := cell_below hb3 (Nat.le_refl _) c2
      have hlw3 : wr.heap.size < w3.heap.size := by omega
      clear hw3 c0 c1
      go_wp2_with fail
      go_quiet (first | (go_at_call 44; exact Calls.quiet_of_same (value44 _ _ _)) | (go_at_call 43; exact Calls.quiet_of_same (fits43 _ _ _ (HM.out.out1 k HF.out) (HM.out.out2 k HF.out) (fun h => by
        have : k = 0 := by simpa using h
        subst this
        exact HM.out.first2))))
      go_wp2_with fail
      rw [rounds_succ]
      obtain ⟨w4, hw4⟩ : ∃ w4, w4 = (w3.alloc (.cells #[.int .i64 1, .func (.func 43) #[] #[], .func (.func 44) #[] #[]] 83)).drewN nq := ⟨_, rfl⟩
      have hb4 : Below w3.heap.size w3 w4 := by rw [hw4]; exact (((Below.refl _ _).alloc (Nat.le_refl _) _).trans (drewN_below _ _ _))
      rw [← hw4]
      have hs4 := hb4.size
      have e2 := cell_below hb4 (Nat.le_refl _) d2
      have hlw4 : wr.heap.size < w4.heap.size := by omega
      clear hw4 d1 d2
      go_wp2_with fail
      go_quiet (first | (go_at_call 46; exact Calls.quiet_of_same (value46 _ _ _)) | (go_at_call 45; exact Calls.quiet_of_same (fits45 _ _ _ (HM.out.most1 k HF.out) (HM.out.most2 k HF.out))))
      go_wp2_with fail
      rw [rounds_succ]
      go_wp2_with fail
      refine ⟨⟨k + 1, by omega, by go_num, ?_⟩, by simp [intOf]; omega⟩
      have h0 := HBEL.out.size
      exact HBEL.out.trans (((Below.refl _ _).alloc h0 _).trans ((hb2.mono (by simp; omega)).trans ((hb3.mono (by omega)).trans ((hb4.mono (by omega)).trans (((Below.refl _ _).alloc (by omega) _).trans (drewN_below _ _ _))))))
    · clear hbel
      go_wp2
      go_ret
      exact ⟨rfl, HB.out.trans (HBEL.out.mono (by have := HZ.out; omega))⟩

end Go.Proofs.Ytalhoahkbmeeeaa
