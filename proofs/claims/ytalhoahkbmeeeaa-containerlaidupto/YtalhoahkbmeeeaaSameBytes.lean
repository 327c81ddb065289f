/- sameBytes (function 13): are two lists of bytes the same? For lists that memory holds. -/
import Derived.Test.YtalhoahkbmeeeaaD
namespace Go.Proofs.Ytalhoahkbmeeeaa
open Go.RowKit



theorem sameBytes_ne (a b : Option Addr) (n m c d : Nat) (w : World) (h : n ≠ m) :
    Calls Try.prog 13 #[.slice a n c, .slice b m d] w fun e w' => e = .returned (.bool false) ∧ w' = w := by
  have hd : ((n : Int) != (m : Int)) = true := by rw [bne_iff_ne]; omega
  go_enter Try.func13, Try.ntmps13
  go_wp2
  go_ret
  exact ⟨rfl, rfl⟩

theorem sameBytes_zero (a b : Option Addr) (c d : Nat) (w : World) :
    Calls Try.prog 13 #[.slice a 0 c, .slice b 0 d] w fun e w' => e = .returned (.bool true) ∧ w' = w := by
  go_enter Try.func13, Try.ntmps13
  go_wp2
  refine wp_loop_rounds 1 ?_
  rw [rounds_succ]
  go_wp2
  go_ret
  exact ⟨rfl, rfl⟩

set_option maxHeartbeats 400000 in
theorem sameBytes_pos (b b' off off' c d : Nat) (l m : List Int) (w : World) (hl : m.length = l.length) (hmax : l.length ≤ maxLen)
    (hc : ∀ j, j < l.length → w.cell? ⟨b, off + j, none⟩ = some (.int .u8 (gb l j)))
    (hc' : ∀ j, j < l.length → w.cell? ⟨b', off' + j, none⟩ = some (.int .u8 (gb m j))) :
    Calls Try.prog 13 #[.slice (some ⟨b, off, none⟩) l.length c, .slice (some ⟨b', off', none⟩) l.length d] w fun e w' => e = .returned (.bool (decide (l = m))) ∧ ∃ n, w' = w.drewN n := by
  unfold maxLen at hmax
  go_enter Try.func13, Try.ntmps13
  go_wp2
  go_loopw [4, 5] (fun r i wr => ∃ k : Nat, k ≤ l.length ∧ i = .int .i64 k ∧ r = .bool false ∧ l.take k = m.take k ∧ ∃ n, wr = w.drewN n) (fun _ i _ => l.length - (intOf i).toNat)
  case atStart => exact ⟨0, Nat.zero_le _, rfl, rfl, by simp, 0, rfl⟩
  case round =>
    obtain ⟨k, hk, rfl, rfl, htk, nn, rfl⟩ := hrel
    have HT := Lib.hid htk
    clear htk
    by_cases hlt : k < l.length
    · have h1 : (w.drewN nn).cell? ⟨b, off + k, none⟩ = some (.int .u8 (gb l k)) := by simpa using hc k hlt
      have h2 : (w.drewN nn).cell? ⟨b', off' + k, none⟩ = some (.int .u8 (gb m k)) := by simpa using hc' k hlt
      by_cases he : gb l k = gb m k
      · have hb : (gb l k != gb m k) = false := by rw [bne_eq_false_iff_eq]; exact he
        have HE := Lib.hid he
        clear he
        go_wp2
        go_quiet (fail)
        go_wp2
        refine ⟨⟨k + 1, by omega, by go_num, rfl, ?_, nn + nq, rfl⟩, by simp [intOf]; omega⟩
        rw [List.take_succ_eq_append_getElem hlt, List.take_succ_eq_append_getElem (by omega), HT.out]
        have := HE.out
        rw [gb_eq hlt, gb_eq (by omega)] at this
        rw [this]
      · have hb : (gb l k != gb m k) = true := by rw [bne_iff_ne]; exact he
        have HE := Lib.hid he
        clear he
        go_wp2
        go_quiet (fail)
        go_wp2
        go_ret
        refine ⟨ret_bool ?_, nn + nq, drewN_drewN _ _ _⟩
        symm
        rw [decide_eq_false_iff_not]
        rintro rfl
        exact HE.out rfl
    · go_wp2
      go_ret
      refine ⟨ret_bool ?_, _, rfl⟩
      symm
      rw [decide_eq_true_iff]
      have := HT.out
      rwa [show k = l.length by omega, List.take_length, ← hl, List.take_length] at this


/-- sameBytes: are the two the same? It draws alone. -/
theorem sameBytes_any {w : World} {v v' : Value} {l m : List Int} (h : RB w v l) (h' : RB w v' m) (hmax : l.length ≤ maxLen) :
    Calls Try.prog 13 #[v, v'] w fun e w' => e = .returned (.bool (decide (l = m))) ∧ ∃ n, w' = w.drewN n := by
  by_cases hne : l.length = m.length
  · rcases h.cases with ⟨rfl, a, c, rfl⟩ | ⟨h0, b, off, c, rfl, -, hc⟩
    · have : m = [] := List.eq_nil_of_length_eq_zero (by simpa using hne.symm)
      subst this
      rcases h'.cases with ⟨-, a', c', rfl⟩ | ⟨h0, -⟩
      · exact (sameBytes_zero a a' c c' w).mono fun e w' ⟨he, hw⟩ => ⟨by rw [he]; rfl, 0, by rw [hw]; rfl⟩
      · simp at h0
    · rcases h'.cases with ⟨rfl, a', c', rfl⟩ | ⟨-, b', off', c', rfl, -, hc'⟩
      · have : l.length = 0 := hne
        omega
      · rw [← hne]
        exact sameBytes_pos b b' off off' c c' l m w hne.symm hmax hc (fun j hj => hc' j (by omega))
  · rcases h with ⟨-, a, c, rfl, -⟩
    rcases h' with ⟨-, a', c', rfl, -⟩
    refine (sameBytes_ne a a' _ _ c c' w hne).mono fun e w' ⟨he, hw⟩ => ⟨?_, 0, by rw [hw]; rfl⟩
    rw [he]
    refine ret_bool ?_
    symm
    rw [decide_eq_false_iff_not]
    rintro rfl
    exact hne rfl

end Go.Proofs.Ytalhoahkbmeeeaa
