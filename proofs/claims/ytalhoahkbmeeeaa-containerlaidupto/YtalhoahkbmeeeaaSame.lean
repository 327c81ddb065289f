/- sameParts (25), same (11): are two lists of parts, two containers the same? For what memory holds. -/
import Derived.Test.YtalhoahkbmeeeaaSameBytes
namespace Go.Proofs.Ytalhoahkbmeeeaa
open Go.RowKit

theorem sameParts_ne (a b : Option Addr) (n m c d : Nat) (w : World) (h : n ≠ m) :
    Calls Try.prog 25 #[.slice a n c, .slice b m d] w fun e w' => e = .returned (.bool false) ∧ w' = w := by
  have hd : ((n : Int) != (m : Int)) = true := by rw [bne_iff_ne]; omega
  go_enter Try.func25, Try.ntmps25
  go_wp2
  go_ret
  exact ⟨rfl, rfl⟩

theorem sameParts_zero (a b : Option Addr) (c d : Nat) (w : World) :
    Calls Try.prog 25 #[.slice a 0 c, .slice b 0 d] w fun e w' => e = .returned (.bool true) ∧ w' = w := by
  go_enter Try.func25, Try.ntmps25
  go_wp2
  refine wp_loop_rounds 1 ?_
  rw [rounds_succ]
  go_wp2
  go_ret
  exact ⟨rfl, rfl⟩

theorem quiet_add {P : Program} {f : FuncId} {args : Array Value} {w : World} {a n : Nat} {v : Value}
    (h : Calls P f args (w.drewN (a + n)) fun e w' => e = .returned v ∧ ∃ m, w' = (w.drewN (a + n)).drewN m) :
    Calls P f args (w.drewN (a + n)) fun e w'' => e = .returned v ∧ ∃ m, w'' = w.drewN (a + m) :=
  h.mono fun _ _ ⟨he, m, hm⟩ => ⟨he, n + m, by rw [hm, World.drewN_drewN, Nat.add_assoc]⟩

theorem take_snoc_eq {α : Type} {l m : List α} {k : Nat} (hk : k < l.length) (hk' : k < m.length) (h : l.take k = m.take k) (e : l[k] = m[k]) : l.take (k + 1) = m.take (k + 1) := by
  rw [List.take_succ_eq_append_getElem hk, List.take_succ_eq_append_getElem hk', h, e]

set_option maxHeartbeats 400000 in
theorem sameParts_pos (b b' off off' c d : Nat) (l m : List (List Int)) (vs us : List Value) (w : World) (hl : m.length = l.length) (hmax : l.length ≤ maxLen)
    (hc : ∀ j, j < l.length → w.cell? ⟨b, off + j, none⟩ = some (gv vs j))
    (hc' : ∀ j, j < l.length → w.cell? ⟨b', off' + j, none⟩ = some (gv us j))
    (hr : ∀ j, j < l.length → RB w (gv vs j) (gp l j)) (hr' : ∀ j, j < l.length → RB w (gv us j) (gp m j)) (hlen : ∀ j, j < l.length → (gp l j).length ≤ maxLen) :
    Calls Try.prog 25 #[.slice (some ⟨b, off, none⟩) l.length c, .slice (some ⟨b', off', none⟩) l.length d] w fun e w' => e = .returned (.bool (decide (l = m))) ∧ ∃ n, w' = w.drewN n := by
  unfold maxLen at hmax
  go_enter Try.func25, Try.ntmps25
  go_wp2
  go_loopw [4, 5] (fun r i wr => ∃ k : Nat, k ≤ l.length ∧ i = .int .i64 k ∧ r = .bool false ∧ l.take k = m.take k ∧ ∃ n, wr = w.drewN n) (fun _ i _ => l.length - (intOf i).toNat)
  case atStart => exact ⟨0, Nat.zero_le _, rfl, rfl, by simp, 0, rfl⟩
  case round =>
    obtain ⟨k, hk, rfl, rfl, htk, nn, rfl⟩ := hrel
    have HT := Lib.hid htk
    clear htk
    by_cases hlt : k < l.length
    · have h1 : w.cell? ⟨b, off + k, none⟩ = some (gv vs k) := hc k hlt
      have h2 : w.cell? ⟨b', off' + k, none⟩ = some (gv us k) := hc' k hlt
      have hcall : ∀ n', Calls Try.prog 13 #[gv vs k, gv us k] (w.drewN n') fun e w' => e = .returned (.bool (decide (gp l k = gp m k))) ∧ ∃ n, w' = (w.drewN n').drewN n := fun n' =>
        sameBytes_any ((hr k hlt).below (drewN_below w.heap.size w n') (Nat.le_refl _)) ((hr' k hlt).below (drewN_below w.heap.size w n') (Nat.le_refl _)) (hlen k hlt)
      have HC := Lib.hid hcall
      clear hcall hr hr' hc hc' hlen
      by_cases he : gp l k = gp m k
      · have hb : decide (gp l k = gp m k) = true := decide_eq_true he
        have HE := Lib.hid he
        rw [hb] at HC
        clear he hb
        go_wp2
        go_quiet ((go_at_call 13; exact quiet_add (HC.out _)))
        go_wp2
        refine ⟨⟨k + 1, by omega, by go_num, rfl, ?_, nn + nq, rfl⟩, by simp [intOf]; omega⟩
        refine take_snoc_eq hlt (by omega) HT.out ?_
        have := HE.out
        rwa [gp_eq hlt, gp_eq (by omega)] at this
      · have hb : decide (gp l k = gp m k) = false := decide_eq_false he
        have HE := Lib.hid he
        rw [hb] at HC
        clear he hb
        go_wp2
        go_quiet ((go_at_call 13; exact quiet_add (HC.out _)))
        go_wp2
        go_ret
        refine ⟨ret_bool ?_, nn + nq, drewN_drewN _ _ _⟩
        symm
        rw [decide_eq_false_iff_not]
        rintro rfl
        exact HE.out rfl
    · go_wp2
      go_ret
      refine ⟨ret_bool ?_, _, rfl⟩
      symm
      rw [decide_eq_true_iff]
      have := HT.out
      rwa [show k = l.length by omega, List.take_length, ← hl, List.take_length] at this

theorem sameParts_any {w : World} {v v' : Value} {l m : List (List Int)} (h : RP w v l) (h' : RP w v' m) (hmax : l.length ≤ maxLen) (hlen : ∀ j, j < l.length → (gp l j).length ≤ maxLen) :
    Calls Try.prog 25 #[v, v'] w fun e w' => e = .returned (.bool (decide (l = m))) ∧ ∃ n, w' = w.drewN n := by
  by_cases hne : l.length = m.length
  · rcases h.cases with ⟨rfl, a, c, rfl⟩ | ⟨h0, b, off, c, vs, rfl, -, -, hc, hr⟩
    · have : m = [] := List.eq_nil_of_length_eq_zero (by simpa using hne.symm)
      subst this
      rcases h'.cases with ⟨-, a', c', rfl⟩ | ⟨h0, -⟩
      · exact (sameParts_zero a a' c c' w).mono fun e w' ⟨he, hw⟩ => ⟨by rw [he]; rfl, 0, by rw [hw]; rfl⟩
      · simp at h0
    · rcases h'.cases with ⟨rfl, a', c', rfl⟩ | ⟨-, b', off', c', us, rfl, -, -, hc', hr'⟩
      · have : l.length = 0 := hne
        omega
      · rw [← hne]
        exact sameParts_pos b b' off off' c c' l m vs us w hne.symm hmax hc (fun j hj => hc' j (by omega)) hr (fun j hj => hr' j (by omega)) hlen
  · rcases h with ⟨vs, ⟨-, a, c, rfl, -⟩, -⟩
    rcases h' with ⟨us, ⟨-, a', c', rfl, -⟩, -⟩
    refine (sameParts_ne a a' _ _ c c' w hne).mono fun e w' ⟨he, hw⟩ => ⟨?_, 0, by rw [hw]; rfl⟩
    rw [he]
    refine ret_bool ?_
    symm
    rw [decide_eq_false_iff_not]
    rintro rfl
    exact hne rfl

end Go.Proofs.Ytalhoahkbmeeeaa
