/- slices.Clone of bytes (37) and of types (22); clones (23). -/
import Derived.Test.YtalhoahkbmeeeaaCheck
namespace Go.Proofs.Ytalhoahkbmeeeaa
open Go.RowKit

theorem RC.none {w : World} {n c size : Nat} {cs : List Value} (h : RC w (.slice none n c) n size cs) (hs : 0 < size) : n = 0 ∧ cs = [] := by
  obtain ⟨hl, a, cap, he, -, h0 | ⟨b, off, ha, -⟩⟩ := h
  · subst h0
    have : n * size = 0 := by simpa using hl.symm
    rcases Nat.mul_eq_zero.1 this with h | h
    · exact ⟨h, rfl⟩
    · omega
  · injection he with e1
    rw [ha] at e1
    cases e1

/-- a row of no cells, as buildSlice lays it -/
theorem ownsRow_empty (w : World) (e size : Nat) : (w.alloc (.cells #[] e)).ownsRow w.heap.size e size (.slice (some ⟨w.heap.size, 0, none⟩) 0 0) 0 [] :=
  World.ownsRow_lit w #[] 0 (Nat.le_refl _) (by unfold maxLen; omega) (by simp)

set_option maxHeartbeats 400000 in
theorem clone_bytes {w : World} {v : Value} {l : List Int} (h : RB w v l) (hmax : l.length ≤ 1000000000) :
    Calls Try.prog 37 #[v] w fun e w' => ∃ a c, e = .returned (.slice a l.length c) ∧ w'.ownsRow w.heap.size 5 1 (.slice a l.length c) l.length (byteVals l) ∧ Below w.heap.size w w' := by
  obtain ⟨i0, hi, hz, hsz, hby⟩ := info_parts info5
  obtain ⟨a, c, rfl⟩ := RC.slice h
  have heq := fun W => Lib.run_eql_slice_nil (P := Try.prog) W 24 5 a l.length c 0 0 Try.underlying24
  cases a with
  | none =>
    obtain ⟨h0, -⟩ := h.none (by omega)
    have hl : l = [] := List.eq_nil_of_length_eq_zero h0
    subst hl
    clear h heq
    have heq := fun W => Lib.run_eql_slice_nil (P := Try.prog) W 24 5 none 0 c 0 0 Try.underlying24
    go_enter Try.func37, Try.ntmps37
    go_wp2
    go_ret
    exact ⟨none, 0, rfl, World.ownsRow_nil _ _ _ _, Below.refl _ _⟩
  | some ad =>
    have hB : Below w.heap.size w (w.alloc (.cells #[] 5)) := (Below.refl _ _).alloc (Nat.le_refl _) _
    have H := Lib.hid (h.below hB (Nat.le_refl _))
    clear h
    go_enter Try.func37, Try.ntmps37
    go_wp2_with (refine wpList_append_rc rfl _ _ 24 rfl w.heap.size 5 i0 (.int .u8 0) 1 1 Try.underlying24 hi hz hsz hby rfl (by decide) _ 0 [] rfl (ownsRow_empty w 5 1) _ l.length (byteVals l) rfl H.out (byteVals_one l) (by unfold maxLen; omega) (by omega) (by simp) ?_; intro v' w1 hown hg _)
    go_ret
    rw [Nat.zero_add, List.nil_append] at hown
    obtain ⟨a, c, hv⟩ := ownsRow_slice hown
    rw [hv] at hown
    exact ⟨a, c, by rw [← hv]; rfl, hown, hB.trans (grownBy_below hg (by simp) (fun k hk => by
      have : w.heap.size = k := by simpa [Value.ownBlock, Act.eval] using hk
      omega))⟩

set_option maxHeartbeats 400000 in
theorem clone_types {w : World} {v : Value} {l : List Ty} (h : RT w v l) (hmax : l.length ≤ 1000000000) :
    Calls Try.prog 22 #[v] w fun e w' => ∃ a c, e = .returned (.slice a l.length c) ∧ w'.ownsRow w.heap.size 53 3 (.slice a l.length c) l.length (tyVals l) ∧ Below w.heap.size w w' := by
  obtain ⟨i0, hi, hz, hsz, hby⟩ := info_parts info53
  obtain ⟨a, c, rfl⟩ := RC.slice h
  have heq := fun W => Lib.run_eql_slice_nil (P := Try.prog) W 22 53 a l.length c 0 0 Try.underlying22
  cases a with
  | none =>
    obtain ⟨h0, -⟩ := h.none (by omega)
    have hl : l = [] := List.eq_nil_of_length_eq_zero h0
    subst hl
    clear h heq
    have heq := fun W => Lib.run_eql_slice_nil (P := Try.prog) W 22 53 none 0 c 0 0 Try.underlying22
    go_enter Try.func22, Try.ntmps22
    go_wp2
    go_ret
    exact ⟨none, 0, rfl, World.ownsRow_nil _ _ _ _, Below.refl _ _⟩
  | some ad =>
    have hB : Below w.heap.size w (w.alloc (.cells #[] 53)) := (Below.refl _ _).alloc (Nat.le_refl _) _
    have H := Lib.hid (h.below hB (Nat.le_refl _))
    clear h
    go_enter Try.func22, Try.ntmps22
    go_wp2_with (refine wpList_append_rc rfl _ _ 22 rfl w.heap.size 53 i0 _ 3 24 Try.underlying22 hi hz hsz hby rfl (by decide) _ 0 [] rfl (ownsRow_empty w 53 3) _ l.length (tyVals l) rfl H.out (tyVals_one l) (by unfold maxLen; omega) (by omega) (by simp) ?_; intro v' w1 hown hg _)
    go_ret
    rw [Nat.zero_add, List.nil_append] at hown
    obtain ⟨a, c, hv⟩ := ownsRow_slice hown
    rw [hv] at hown
    exact ⟨a, c, by rw [← hv]; rfl, hown, hB.trans (grownBy_below hg (by simp) (fun k hk => by
      have : w.heap.size = k := by simpa [Value.ownBlock, Act.eval] using hk
      omega))⟩

theorem clones_zero (a : Option Addr) (c : Nat) (w : World) :
    Calls Try.prog 23 #[.slice a 0 c] w fun e w' => e = .returned (.slice none 0 0) ∧ w' = w := by
  go_enter Try.func23, Try.ntmps23
  go_wp2
  refine wp_loop_rounds 1 ?_
  rw [rounds_succ]
  go_wp2
  go_ret
  exact ⟨rfl, rfl⟩

set_option maxHeartbeats 800000 in
theorem clones_pos (b off c : Nat) (ll : List (List Int)) (us : List Value) (w : World) (hmax : ll.length ≤ 1000000000)
    (hc : ∀ j, j < ll.length → w.cell? ⟨b, off + j, none⟩ = some (gv us j))
    (hr : ∀ j, j < ll.length → RB w (gv us j) (gp ll j)) (hlen : ∀ j, j < ll.length → (gp ll j).length ≤ 1000000000) :
    Calls Try.prog 23 #[.slice (some ⟨b, off, none⟩) ll.length c] w fun e w' => ∃ v' vs, e = .returned v' ∧ OwnParts w' w.heap.size v' vs ll ∧ Below w.heap.size w w' := by
  obtain ⟨i0, hi, hz, hsz, hby⟩ := info_parts info24
  go_enter Try.func23, Try.ntmps23
  go_wp2
  go_loopw [3, 8] (fun r i wr => ∃ (k : Nat) (vs : List Value), k ≤ ll.length ∧ i = .int .i64 k ∧ OwnParts wr w.heap.size r vs (ll.take k) ∧ Below w.heap.size w wr) (fun _ i _ => ll.length - (intOf i).toNat)
  case atStart => exact ⟨0, [], Nat.zero_le _, rfl, by simpa using OwnParts.nil _ _, Below.refl _ _⟩
  case round =>
    obtain ⟨k, vs, hk, rfl, hown, hbel⟩ := hrel
    by_cases hlt : k < ll.length
    · have h1 : wr.cell? ⟨b, off + k, none⟩ = some (gv us k) := cell_below hbel (Nat.le_refl _) (hc k hlt)
      have hcall := clone_bytes ((hr k hlt).below hbel (Nat.le_refl _)) (hlen k hlt)
      have HC := Lib.hid hcall
      have hbase := hbel.size
      have hkl : (ll.take k).length = k := by rw [List.length_take]; omega
      have HK := Lib.hid hkl
      have HTK := Lib.hid (take_snoc_gp hlt)
      clear hcall hc hr hlen hkl
      go_wp2_with fail
      refine HC.out.mono ?_
      rintro e w1 ⟨a1, c1, rfl, ho1, hb1⟩
      have hrow := ownsRow_below hown.row hb1 (Nat.le_refl _)
      rw [HK.out] at hrow
      have hrow2 := hrow.alloc (.cells #[.slice a1 (gp ll k).length c1] 24)
      have hnew : RC (w1.alloc (.cells #[.slice a1 (gp ll k).length c1] 24)) (.slice (some ⟨w1.heap.size, 0, none⟩) 1 1) 1 1 [.slice a1 (gp ll k).length c1] :=
        RC.ofOwn (World.ownsRow_lit w1 #[.slice a1 (gp ll k).length c1] 1 (base := 0) (Nat.zero_le _) (by unfold maxLen; omega) rfl)
      have hone : ∀ u ∈ [Value.slice a1 (gp ll k).length c1], u.oneCell' = true := by
        intro u hu
        have : u = .slice a1 (gp ll k).length c1 := by simpa using hu
        subst this
        rfl
      have hs1 := hb1.size
      go_wp2_with (refine wpList_append_rc rfl _ _ 23 rfl w.heap.size 24 i0 (.slice none 0 0) 1 24 Try.underlying23 hi hz hsz hby rfl (by decide) _ k vs rfl hrow2 _ 1 [.slice a1 (gp ll k).length c1] rfl hnew hone (by unfold maxLen; omega) (by omega) (by simp; omega) ?_; intro v' w3 hown3 hg3 hat3)
      have hbelow : Below w.heap.size w w3 := (hbel.trans ((hb1.mono hbase).trans (((Below.refl _ _).alloc (by omega) _).trans (grownBy_below hg3 (by simp; omega) (fun q hq => (hown.row.lt q hq).1)))))
      have hfin : OwnParts w3 w.heap.size v' (vs ++ [.slice a1 (gp ll k).length c1]) (ll.take (k + 1)) := by
        rw [HTK.out]
        refine hown.snoc (.cells #[.slice a1 (gp ll k).length c1] 24) hbase hb1 ho1 ?_ hg3 hat3
        rw [HK.out]
        exact hown3
      go_wp2
      exact ⟨⟨k + 1, _, by omega, by go_num, hfin, hbelow⟩, by simp [intOf]; omega⟩
    · have hk2 : k = ll.length := by omega
      subst hk2
      go_wp2
      go_ret
      rw [List.take_length] at hown
      exact ⟨_, _, rfl, hown, hbel⟩

theorem clones_any {w : World} {v : Value} {ll : List (List Int)} (h : RP w v ll) (hmax : ll.length ≤ 1000000000) (hlen : ∀ j, j < ll.length → (gp ll j).length ≤ 1000000000) :
    Calls Try.prog 23 #[v] w fun e w' => ∃ a c vs, e = .returned (.slice a ll.length c) ∧ OwnParts w' w.heap.size (.slice a ll.length c) vs ll ∧ Below w.heap.size w w' := by
  rcases h.cases with ⟨rfl, a, c, rfl⟩ | ⟨h0, b, off, c, us, rfl, -, -, hc, hr⟩
  · refine (clones_zero a c w).mono fun e w' ⟨he, hw⟩ => ⟨_, _, [], he, OwnParts.nil _ _, ?_⟩
    rw [hw]
    exact Below.refl _ _
  · refine (clones_pos b off c ll us w hmax hc hr hlen).mono ?_
    rintro e w' ⟨v', vs, rfl, ho, hb⟩
    obtain ⟨a', c', rfl⟩ := ownsRow_slice ho.row
    exact ⟨a', c', vs, rfl, ho, hb⟩

end Go.Proofs.Ytalhoahkbmeeeaa
