/- ownParts (24): a list of byte lists in new memory, each list a block of its own. -/
import Derived.Test.YtalhoahkbmeeeaaApp
namespace Go.Proofs.Ytalhoahkbmeeeaa
open Go.RowKit

theorem take_snoc_gp {ll : List (List Int)} {k : Nat} (h : k < ll.length) : ll.take (k + 1) = ll.take k ++ [gp ll k] := by
  rw [List.take_succ_eq_append_getElem h, gp_eq h]

theorem ownParts_zero (a : Option Addr) (c : Nat) (w : World) :
    Calls Try.prog 24 #[.slice a 0 c] w fun e w' => e = .returned (.slice none 0 0) ∧ w' = w := by
  go_enter Try.func24, Try.ntmps24
  go_wp2
  refine wp_loop_rounds 1 ?_
  rw [rounds_succ]
  go_wp2
  go_ret
  exact ⟨rfl, rfl⟩

set_option maxHeartbeats 800000 in
theorem ownParts_pos (b off c : Nat) (ll : List (List Int)) (us : List Value) (w : World) (hmax : ll.length ≤ 1000000000)
    (hc : ∀ j, j < ll.length → w.cell? ⟨b, off + j, none⟩ = some (gv us j))
    (hr : ∀ j, j < ll.length → RB w (gv us j) (gp ll j)) (hlen : ∀ j, j < ll.length → (gp ll j).length ≤ 1000000000) :
    Calls Try.prog 24 #[.slice (some ⟨b, off, none⟩) ll.length c] w fun e w' => ∃ v' vs, e = .returned v' ∧ OwnParts w' w.heap.size v' vs ll ∧ Below w.heap.size w w' := by
  obtain ⟨i0, hi, hz, hsz, hby⟩ := info_parts info24
  go_enter Try.func24, Try.ntmps24
  go_wp2
  go_loopw [3, 4] (fun r i wr => ∃ (k : Nat) (vs : List Value), k ≤ ll.length ∧ i = .int .i64 k ∧ OwnParts wr w.heap.size r vs (ll.take k) ∧ Below w.heap.size w wr) (fun _ i _ => ll.length - (intOf i).toNat)
  case atStart => exact ⟨0, [], Nat.zero_le _, rfl, by simpa using OwnParts.nil _ _, Below.refl _ _⟩
  case round =>
    obtain ⟨k, vs, hk, rfl, hown, hbel⟩ := hrel
    by_cases hlt : k < ll.length
    · have h1 : wr.cell? ⟨b, off + k, none⟩ = some (gv us k) := cell_below hbel (Nat.le_refl _) (hc k hlt)
      have hcall := own_any ((hr k hlt).below hbel (Nat.le_refl _)) (hlen k hlt)
      have HC := Lib.hid hcall
      have hbase := hbel.size
      have hkl : (ll.take k).length = k := by rw [List.length_take]; omega
      have HK := Lib.hid hkl
      have HTK := Lib.hid (take_snoc_gp hlt)
      clear hcall hc hr hlen hkl
      go_wp2_with fail
      refine HC.out.mono ?_
      rintro e w1 ⟨a1, c1, rfl, ho1, hb1⟩
      have hrow := ownsRow_below hown.row hb1 (Nat.le_refl _)
      rw [HK.out] at hrow
      have hrow2 := hrow.alloc (.cells #[.slice a1 (gp ll k).length c1] 24)
      have hnew : RC (w1.alloc (.cells #[.slice a1 (gp ll k).length c1] 24)) (.slice (some ⟨w1.heap.size, 0, none⟩) 1 1) 1 1 [.slice a1 (gp ll k).length c1] :=
        RC.ofOwn (World.ownsRow_lit w1 #[.slice a1 (gp ll k).length c1] 1 (base := 0) (Nat.zero_le _) (by unfold maxLen; omega) rfl)
      have hone : ∀ u ∈ [Value.slice a1 (gp ll k).length c1], u.oneCell' = true := by
        intro u hu
        have : u = .slice a1 (gp ll k).length c1 := by simpa using hu
        subst this
        rfl
      have hs1 := hb1.size
      go_wp2_with (refine wpList_append_rc rfl _ _ 23 rfl w.heap.size 24 i0 (.slice none 0 0) 1 24 Try.underlying23 hi hz hsz hby rfl (by decide) _ k vs rfl hrow2 _ 1 [.slice a1 (gp ll k).length c1] rfl hnew hone (by unfold maxLen; omega) (by omega) (by simp; omega) ?_; intro v' w3 hown3 hg3 hat3)
      have hbelow : Below w.heap.size w w3 := (hbel.trans ((hb1.mono hbase).trans (((Below.refl _ _).alloc (by omega) _).trans (grownBy_below hg3 (by simp; omega) (fun q hq => (hown.row.lt q hq).1)))))
      have hfin : OwnParts w3 w.heap.size v' (vs ++ [.slice a1 (gp ll k).length c1]) (ll.take (k + 1)) := by
        rw [HTK.out]
        refine hown.snoc (.cells #[.slice a1 (gp ll k).length c1] 24) hbase hb1 ho1 ?_ hg3 hat3
        rw [HK.out]
        exact hown3
      go_wp2
      exact ⟨⟨k + 1, _, by omega, by go_num, hfin, hbelow⟩, by simp [intOf]; omega⟩
    · have hk2 : k = ll.length := by omega
      subst hk2
      go_wp2
      go_ret
      rw [List.take_length] at hown
      exact ⟨_, _, rfl, hown, hbel⟩

theorem ownParts_any {w : World} {v : Value} {ll : List (List Int)} (h : RP w v ll) (hmax : ll.length ≤ 1000000000) (hlen : ∀ j, j < ll.length → (gp ll j).length ≤ 1000000000) :
    Calls Try.prog 24 #[v] w fun e w' => ∃ a c vs, e = .returned (.slice a ll.length c) ∧ OwnParts w' w.heap.size (.slice a ll.length c) vs ll ∧ Below w.heap.size w w' := by
  rcases h.cases with ⟨rfl, a, c, rfl⟩ | ⟨h0, b, off, c, us, rfl, -, -, hc, hr⟩
  · refine (ownParts_zero a c w).mono fun e w' ⟨he, hw⟩ => ⟨_, _, [], he, OwnParts.nil _ _, ?_⟩
    rw [hw]
    exact Below.refl _ _
  · refine (ownParts_pos b off c ll us w hmax hc hr hlen).mono ?_
    rintro e w' ⟨v', vs, rfl, ho, hb⟩
    obtain ⟨a', c', rfl⟩ := ownsRow_slice ho.row
    exact ⟨a', c', vs, rfl, ho, hb⟩

theorem OwnParts.setCell {w : World} {base : Nat} {v : Value} {vs : List Value} {ll : List (List Int)} (h : OwnParts w base v vs ll) {a : Addr} (ha : a.block < base) (u : Value) : OwnParts (w.setCell a u) base v vs ll :=
  ⟨ownsRow_setCell_below h.row ha u, fun i hi => ownsRow_setCell_below (h.each i hi) ha u, h.part, h.outer⟩

end Go.Proofs.Ytalhoahkbmeeeaa
