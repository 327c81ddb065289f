/- weight (5): what it tells bounds every list of the container, where it is at most 2^21. -/
import Derived.Test.YtalhoahkbmeeeaaTwin
namespace Go.Proofs.Ytalhoahkbmeeeaa
open Go.RowKit

theorem boxed1 (w : World) (A : Array Value) : Below w.heap.size w (w.alloc (.cells A 26)) := (Below.refl _ _).alloc (Nat.le_refl _) _

/-- where the elements of a slice of parts lie, empty or not -/
theorem RP.at {w : World} {a : Option Addr} {n c : Nat} {ll : List (List Int)} (h : RP w (.slice a n c) ll) :
    n = ll.length ∧ ∃ b off vs, vs.length = ll.length ∧ (∀ k : Nat, k < ll.length → ∀ W, (Instr.indexAt 23 (.slice a n c) (.int .i64 (k : Int))).run Try.prog W = .ok (.pointer (some ⟨b, off + k, none⟩)) W) ∧
      (∀ k, k < ll.length → w.cell? ⟨b, off + k, none⟩ = some (gv vs k)) ∧ ∀ k, k < ll.length → RB w (gv vs k) (gp ll k) := by
  rcases h.cases with ⟨rfl, a', c', he⟩ | ⟨h0, b, off, c', vs, he, -, hv, hc, hr⟩
  · injection he with e1 e2 e3
    exact ⟨e2, 0, 0, [], rfl, fun k h => by simp at h, fun k h => by simp at h, fun k h => by simp at h⟩
  · injection he with e1 e2 e3
    subst e1 e2
    refine ⟨rfl, b, off, vs, hv, fun k hk W => ?_, hc, hr⟩
    have hk' : (k : Int) < (ll.length : Int) := by omega
    obtain ⟨i0, hi, hz, hsz, hby⟩ := info_parts info24
    simp [Instr.indexAt, asIntOf, run_underlying Try.underlying23, sizeOf, typeInfo, hi, hsz, hk, addr_add]

theorem RT.n {w : World} {a : Option Addr} {n c : Nat} {ts : List Ty} (h : RT w (.slice a n c) ts) : n = ts.length := by
  obtain ⟨-, a', c', he, -⟩ := h
  injection he

theorem RB.n {w : World} {a : Option Addr} {n c : Nat} {l : List Int} (h : RB w (.slice a n c) l) : n = l.length := by
  obtain ⟨-, a', c', he, -⟩ := h
  injection he

theorem RC.slice {w : World} {v : Value} {n size : Nat} {cs : List Value} (h : RC w v n size cs) : ∃ a c, v = .slice a n c := by
  obtain ⟨-, a, c, rfl, -⟩ := h
  exact ⟨a, c, rfl⟩

/-- a container's five values, the four lists as slices -/
theorem RCn.open {w : World} {v : Value} {c : Cn} (h : RCn w v c) : ∃ at_ ct ac cc as_ cs ad cd,
    v = .agg #[.slice at_ c.ts.length ct, .slice ac c.codes.length cc, .slice as_ c.subs.length cs, .slice ad c.data.length cd, .int .i64 c.size] ∧
    RT w (.slice at_ c.ts.length ct) c.ts ∧ RP w (.slice ac c.codes.length cc) c.codes ∧ RP w (.slice as_ c.subs.length cs) c.subs ∧ RB w (.slice ad c.data.length cd) c.data := by
  obtain ⟨vt, vc, vs, vd, rfl, h1, h2, h3, h4⟩ := h
  obtain ⟨a1, c1, rfl⟩ := RC.slice h1
  obtain ⟨u2, h2', e2⟩ := h2
  obtain ⟨a2, c2, rfl⟩ := RC.slice h2'
  obtain ⟨u3, h3', e3⟩ := h3
  obtain ⟨a3, c3, rfl⟩ := RC.slice h3'
  obtain ⟨a4, c4, rfl⟩ := RC.slice h4
  exact ⟨a1, c1, a2, c2, a3, c3, a4, c4, rfl, h1, ⟨u2, h2', e2⟩, ⟨u3, h3', e3⟩, h4⟩

/-- the length of a part that memory holds -/
theorem RB.len {w : World} {v : Value} {l : List Int} (h : RB w v l) : ∃ a c, v = .slice a l.length c := RC.slice h

set_option maxHeartbeats 1600000 in
theorem weight_any {w : World} {v : Value} {c : Cn} (h : RCn w v c) (hm : c.small 140737488355328) :
    Calls Try.prog 5 #[v] w fun e w' => ∃ n : Int, e = .returned (.int .i64 n) ∧ (n ≤ 2097152 → c.small 2097152) ∧ Below w.heap.size w w' := by
  obtain ⟨at_, ct, ac, cc, as_, cs, ad, cd, rfl, h1, h2, h3, h4⟩ := h.open
  have hB := boxed1 w #[.slice at_ c.ts.length ct, .slice ac c.codes.length cc, .slice as_ c.subs.length cs, .slice ad c.data.length cd, .int .i64 c.size]
  obtain ⟨-, bc, oc, uc, -, hci, hcc, hcr⟩ := (h2.below hB (Nat.le_refl _)).at
  obtain ⟨-, bs, os, us, -, hsi, hsc, hsr⟩ := (h3.below hB (Nat.le_refl _)).at
  have HB := Lib.hid hB
  have hcl : ∀ k, k < c.codes.length → ∃ a cp, gv uc k = .slice a (gp c.codes k).length cp := fun k hk => (hcr k hk).len
  have hsl : ∀ k, k < c.subs.length → ∃ a cp, gv us k = .slice a (gp c.subs k).length cp := fun k hk => (hsr k hk).len
  have HCI := Lib.hid hci
  have HSI := Lib.hid hsi
  have HCC := Lib.hid hcc
  have HSC := Lib.hid hsc
  have HCL := Lib.hid hcl
  have HSL := Lib.hid hsl
  have HM := Lib.hid hm
  obtain ⟨m1, m2, m3, m4, -, -⟩ := hm
  clear hB h1 h2 h3 h4 hci hcc hcr hsi hsc hsr hcl hsl
  go_enter Try.func5, Try.ntmps5
  go_wp2_with fail
  go_loop [3, 4] (fun n i => ∃ (k : Nat) (m : Int), k ≤ c.codes.length ∧ i = .int .i64 k ∧ n = .int .i64 m ∧ (c.ts.length : Int) ≤ m ∧ (c.codes.length : Int) ≤ m ∧ (c.subs.length : Int) ≤ m ∧ (c.data.length : Int) ≤ m ∧ m ≤ 1000000000000000 ∧ (∀ j, j < k → ((gp c.codes j).length : Int) ≤ m)) (fun _ i => c.codes.length - (intOf i).toNat)
  case atStart => exact ⟨0, _, by omega, rfl, rfl, by omega, by omega, by omega, by omega, by omega, fun j h => by omega⟩
  case round =>
    obtain ⟨k, m, hk, rfl, rfl, q1, q2, q3, q4, q5, q6⟩ := hrel
    have Q6 := Lib.hid q6
    clear q6
    by_cases hcont : k < c.codes.length ∧ m ≤ 2097152
    · obtain ⟨hlt, hle⟩ := hcont
      have hci := HCI.out k hlt
      have hcc := HCC.out k hlt
      obtain ⟨ae, ce, hge⟩ := HCL.out k hlt
      rw [hge] at hcc
      clear hge
      have hml := HM.out.code k hlt
      go_wp2
      refine ⟨⟨k + 1, m + ((gp c.codes k).length : Int), by omega, by go_num, rfl, by omega, by omega, by omega, by omega, by omega, fun j hj => ?_⟩, by simp [intOf]; omega⟩
      by_cases hjk : j < k
      · have := Q6.out j hjk
        omega
      · have : j = k := by omega
        subst this
        omega
    · have hall : m ≤ 2097152 → ∀ j, j < c.codes.length → ((gp c.codes j).length : Int) ≤ m := fun hm j hj => Q6.out j (by
        by_cases hlt : k < c.codes.length
        · exact absurd ⟨hlt, hm⟩ hcont
        · omega)
      have HA := Lib.hid hall
      have hdis : c.codes.length ≤ k ∨ 2097152 < m := by
        by_cases hlt : k < c.codes.length
        · right
          by_cases hle : m ≤ 2097152
          · exact absurd ⟨hlt, hle⟩ hcont
          · omega
        · left; omega
      clear hall hcont Q6
      by_cases hlt : k < c.codes.length
      · have hgt : 2097152 < m := by omega
        clear hdis
        go_wp2
        go_loop [3, 5] (fun n i => ∃ (k : Nat) (m : Int), k ≤ c.subs.length ∧ i = .int .i64 k ∧ n = .int .i64 m ∧ (c.ts.length : Int) ≤ m ∧ (c.codes.length : Int) ≤ m ∧ (c.subs.length : Int) ≤ m ∧ (c.data.length : Int) ≤ m ∧ m ≤ 2000000000000000 ∧ (m ≤ 2097152 → ∀ j, j < c.codes.length → ((gp c.codes j).length : Int) ≤ m) ∧ (∀ j, j < k → ((gp c.subs j).length : Int) ≤ m)) (fun _ i => c.subs.length - (intOf i).toNat)
        case atStart => exact ⟨0, _, by omega, rfl, rfl, by omega, by omega, by omega, by omega, by omega, HA.out, fun j h => by omega⟩
        case round =>
          clear HA
          obtain ⟨k', m', hk', rfl, rfl, p1, p2, p3, p4, p5, p7, p6⟩ := hrel
          have P6 := Lib.hid p6
          have P7 := Lib.hid p7
          clear p6 p7
          by_cases hcont : k' < c.subs.length ∧ m' ≤ 2097152
          · obtain ⟨hlt', hle'⟩ := hcont
            have hsi := HSI.out k' hlt'
            have hsc := HSC.out k' hlt'
            obtain ⟨ae, ce, hge⟩ := HSL.out k' hlt'
            rw [hge] at hsc
            clear hge
            have hml := HM.out.sub k' hlt'
            go_wp2
            refine ⟨⟨k' + 1, m' + ((gp c.subs k').length : Int), by omega, by go_num, rfl, by omega, by omega, by omega, by omega, by omega, fun hm j hj => ?_, fun j hj => ?_⟩, by simp [intOf]; omega⟩
            · have := P7.out (by omega) j hj
              omega
            · by_cases hjk : j < k'
              · have := P6.out j hjk
                omega
              · have : j = k' := by omega
                subst this
                omega
          · have hfin : m' ≤ 2097152 → c.small 2097152 := fun hm => ⟨by omega, by omega, by omega, by omega, fun j hj => by have := P7.out hm j hj; omega, fun j hj => by
              by_cases hlt : k' < c.subs.length
              · exact absurd ⟨hlt, hm⟩ hcont
              · have := P6.out j (by omega)
                omega⟩
            have HF := Lib.hid hfin
            clear hfin P6 P7
            by_cases hlt' : k' < c.subs.length
            · have hgt' : 2097152 < m' := by
                by_cases hle : m' ≤ 2097152
                · exact absurd ⟨hlt', hle⟩ hcont
                · omega
              clear hcont
              go_wp2
              go_ret
              exact ⟨_, rfl, HF.out, HB.out⟩
            · clear hcont
              go_wp2
              go_ret
              exact ⟨_, rfl, HF.out, HB.out⟩
      · clear hdis
        go_wp2
        go_loop [3, 5] (fun n i => ∃ (k : Nat) (m : Int), k ≤ c.subs.length ∧ i = .int .i64 k ∧ n = .int .i64 m ∧ (c.ts.length : Int) ≤ m ∧ (c.codes.length : Int) ≤ m ∧ (c.subs.length : Int) ≤ m ∧ (c.data.length : Int) ≤ m ∧ m ≤ 2000000000000000 ∧ (m ≤ 2097152 → ∀ j, j < c.codes.length → ((gp c.codes j).length : Int) ≤ m) ∧ (∀ j, j < k → ((gp c.subs j).length : Int) ≤ m)) (fun _ i => c.subs.length - (intOf i).toNat)
        case atStart => exact ⟨0, _, by omega, rfl, rfl, by omega, by omega, by omega, by omega, by omega, HA.out, fun j h => by omega⟩
        case round =>
          clear HA
          obtain ⟨k', m', hk', rfl, rfl, p1, p2, p3, p4, p5, p7, p6⟩ := hrel
          have P6 := Lib.hid p6
          have P7 := Lib.hid p7
          clear p6 p7
          by_cases hcont : k' < c.subs.length ∧ m' ≤ 2097152
          · obtain ⟨hlt', hle'⟩ := hcont
            have hsi := HSI.out k' hlt'
            have hsc := HSC.out k' hlt'
            obtain ⟨ae, ce, hge⟩ := HSL.out k' hlt'
            rw [hge] at hsc
            clear hge
            have hml := HM.out.sub k' hlt'
            go_wp2
            refine ⟨⟨k' + 1, m' + ((gp c.subs k').length : Int), by omega, by go_num, rfl, by omega, by omega, by omega, by omega, by omega, fun hm j hj => ?_, fun j hj => ?_⟩, by simp [intOf]; omega⟩
            · have := P7.out (by omega) j hj
              omega
            · by_cases hjk : j < k'
              · have := P6.out j hjk
                omega
              · have : j = k' := by omega
                subst this
                omega
          · have hfin : m' ≤ 2097152 → c.small 2097152 := fun hm => ⟨by omega, by omega, by omega, by omega, fun j hj => by have := P7.out hm j hj; omega, fun j hj => by
              by_cases hlt : k' < c.subs.length
              · exact absurd ⟨hlt, hm⟩ hcont
              · have := P6.out j (by omega)
                omega⟩
            have HF := Lib.hid hfin
            clear hfin P6 P7
            by_cases hlt' : k' < c.subs.length
            · have hgt' : 2097152 < m' := by
                by_cases hle : m' ≤ 2097152
                · exact absurd ⟨hlt', hle⟩ hcont
                · omega
              clear hcont
              go_wp2
              go_ret
              exact ⟨_, rfl, HF.out, HB.out⟩
            · clear hcont
              go_wp2
              go_ret
              exact ⟨_, rfl, HF.out, HB.out⟩

end Go.Proofs.Ytalhoahkbmeeeaa
