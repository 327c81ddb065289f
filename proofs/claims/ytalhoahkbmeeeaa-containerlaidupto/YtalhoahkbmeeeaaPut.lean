/- put (27) of two and of four bytes; two (28). -/
import Derived.Test.YtalhoahkbmeeeaaLay
namespace Go.Proofs.Ytalhoahkbmeeeaa
open Go.RowKit

/-- a number in two, in four bytes -/
def be2 (n : Int) : List Int := [n / 256 % 256, n % 256]
def be4 (n : Int) : List Int := [n / 16777216 % 256, n / 65536 % 256, n / 256 % 256, n % 256]

/-- bytes of the call's own -/
abbrev OB (w : World) (base : Nat) (v : Value) (l : List Int) : Prop := w.ownsRow base 5 1 v l.length (byteVals l)

theorem OB.below {w w' : World} {base B : Nat} {v : Value} {l : List Int} (h : OB w base v l) (hb : Below B w w') (hB : w.heap.size ≤ B) : OB w' base v l := ownsRow_below h hb hB
theorem OB.rb {w : World} {base : Nat} {v : Value} {l : List Int} (h : OB w base v l) : RB w v l := RC.ofOwn h
theorem byteVals_append (a b : List Int) : byteVals (a ++ b) = byteVals a ++ byteVals b := by simp [byteVals]

/-- one more byte -/
theorem OB.mk {w : World} {base : Nat} {v : Value} {l m : List Int} (h : w.ownsRow base 5 1 v (l.length + m.length) (byteVals l ++ byteVals m)) : OB w base v (l ++ m) := by
  unfold OB
  rw [List.length_append, byteVals_append]
  exact h

theorem rc_one (w : World) (x : Value) (e : TypeId) : RC (w.alloc (.cells #[x] e)) (.slice (some ⟨w.heap.size, 0, none⟩) 1 1) 1 1 [x] := by
  refine ⟨rfl, _, _, rfl, Nat.le_refl _, .inr ⟨w.heap.size, 0, rfl, fun j hj => ?_⟩⟩
  have : j = 0 := by simp at hj; omega
  subst this
  rw [World.cell?_alloc_at _ _ _ _ rfl]
  rfl

/-- what one append of bytes leaves -/
theorem grown_below {w0 w w' : World} {base : Nat} {v : Value} {l : List Int} {B : Nat} (h : OB w base v l) (hb : Below B w0 w) (hB : B ≤ base) (hB' : B ≤ w.heap.size) (hg : w.grownBy w' v.ownBlock) : Below B w0 w' :=
  hb.trans (grownBy_below hg hB' (fun k hk => Nat.le_trans hB (h.lt k hk).1))

theorem two_any (n : Int) (w : World) :
    Calls Try.prog 28 #[.int .i64 n] w fun e w' => e = .returned (.slice (some ⟨w.heap.size, 0, none⟩) 2 2) ∧ w' = w.alloc (.cells #[.int .u8 (n / 256 % 256), .int .u8 (n % 256)] 5) := by
  go_enter Try.func28, Try.ntmps28
  go_wp2
  go_ret
  exact ⟨rfl, rfl⟩

theorem rc_two (w : World) (n : Int) : RC (w.alloc (.cells #[.int .u8 (n / 256 % 256), .int .u8 (n % 256)] 5)) (.slice (some ⟨w.heap.size, 0, none⟩) 2 2) 2 1 (byteVals (be2 n)) :=
  RC.ofOwn (World.ownsRow_lit w #[.int .u8 (n / 256 % 256), .int .u8 (n % 256)] 2 (base := 0) (Nat.zero_le _) (by unfold maxLen; omega) rfl)

set_option maxHeartbeats 1600000 in
theorem put2 {w : World} {base : Nat} {v : Value} {l : List Int} (n : Int) (h : OB w base v l) (hbase : base ≤ w.heap.size) (hl : l.length ≤ 100000000000000) :
    Calls Try.prog 27 #[v, .int .i64 n, .int .i64 2] w fun e w' => ∃ v', e = .returned v' ∧ OB w' base v' (l ++ be2 n) ∧ Below base w w' := by
  obtain ⟨i0, hi, hz, hsz, hby⟩ := info_parts info5
  have hu0 := fun k hk => (h.lt k hk).1
  have h0 : w.ownsRow base 5 1 v l.length (byteVals l) := h
  go_enter Try.func27, Try.ntmps27
  go_wp2_with fail
  refine wp_loop_rounds 3 ?_
  rw [rounds_succ]
  go_wp2_with (refine wpList_append_rc rfl _ _ 24 rfl base 5 i0 (.int .u8 0) 1 1 Try.underlying24 hi hz hsz hby rfl (by decide) _ (l.length) _ rfl (World.ownsRow.alloc h0 _) _ 1 _ rfl (rc_one _ _ _) (by intro u hu; have := List.mem_singleton.1 hu; subst this; rfl) (by unfold maxLen; omega) (by omega) (by simp; omega) ?_; intro v1 w1 ho1 hg1 _)
  have hs1 : w.heap.size + 1 ≤ w1.heap.size := by have := hg1.size; simp at this; omega
  have hu1 := fun k hk => (ho1.lt k hk).1
  rw [rounds_succ]
  go_wp2_with (refine wpList_append_rc rfl _ _ 24 rfl base 5 i0 (.int .u8 0) 1 1 Try.underlying24 hi hz hsz hby rfl (by decide) _ (l.length + 1) _ rfl (World.ownsRow.alloc ho1 _) _ 1 _ rfl (rc_one _ _ _) (by intro u hu; have := List.mem_singleton.1 hu; subst this; rfl) (by unfold maxLen; omega) (by omega) (by simp; omega) ?_; intro v2 w2 ho2 hg2 _)
  have hs2 : w1.heap.size + 1 ≤ w2.heap.size := by have := hg2.size; simp at this; omega
  have hu2 := fun k hk => (ho2.lt k hk).1
  rw [rounds_succ]
  go_wp2_with fail
  go_ret
  have hb1 : Below base w w1 := ((Below.refl _ _).alloc (by omega) _).trans (grownBy_below hg1 (by simp; omega) hu0)
  have hb2 : Below base w1 w2 := ((Below.refl _ _).alloc (by omega) _).trans (grownBy_below hg2 (by simp; omega) hu1)
  refine ⟨_, rfl, ?_, (hb1.trans hb2)⟩
  unfold OB
  rw [List.length_append, byteVals_append]
  simpa [byteVals, be2] using ho2

set_option maxHeartbeats 1600000 in
theorem put4 {w : World} {base : Nat} {v : Value} {l : List Int} (n : Int) (h : OB w base v l) (hbase : base ≤ w.heap.size) (hl : l.length ≤ 100000000000000) :
    Calls Try.prog 27 #[v, .int .i64 n, .int .i64 4] w fun e w' => ∃ v', e = .returned v' ∧ OB w' base v' (l ++ be4 n) ∧ Below base w w' := by
  obtain ⟨i0, hi, hz, hsz, hby⟩ := info_parts info5
  have hu0 := fun k hk => (h.lt k hk).1
  have h0 : w.ownsRow base 5 1 v l.length (byteVals l) := h
  go_enter Try.func27, Try.ntmps27
  go_wp2_with fail
  refine wp_loop_rounds 5 ?_
  rw [rounds_succ]
  go_wp2_with (refine wpList_append_rc rfl _ _ 24 rfl base 5 i0 (.int .u8 0) 1 1 Try.underlying24 hi hz hsz hby rfl (by decide) _ (l.length) _ rfl (World.ownsRow.alloc h0 _) _ 1 _ rfl (rc_one _ _ _) (by intro u hu; have := List.mem_singleton.1 hu; subst this; rfl) (by unfold maxLen; omega) (by omega) (by simp; omega) ?_; intro v1 w1 ho1 hg1 _)
  have hs1 : w.heap.size + 1 ≤ w1.heap.size := by have := hg1.size; simp at this; omega
  have hu1 := fun k hk => (ho1.lt k hk).1
  rw [rounds_succ]
  go_wp2_with (refine wpList_append_rc rfl _ _ 24 rfl base 5 i0 (.int .u8 0) 1 1 Try.underlying24 hi hz hsz hby rfl (by decide) _ (l.length + 1) _ rfl (World.ownsRow.alloc ho1 _) _ 1 _ rfl (rc_one _ _ _) (by intro u hu; have := List.mem_singleton.1 hu; subst this; rfl) (by unfold maxLen; omega) (by omega) (by simp; omega) ?_; intro v2 w2 ho2 hg2 _)
  have hs2 : w1.heap.size + 1 ≤ w2.heap.size := by have := hg2.size; simp at this; omega
  have hu2 := fun k hk => (ho2.lt k hk).1
  rw [rounds_succ]
  go_wp2_with (refine wpList_append_rc rfl _ _ 24 rfl base 5 i0 (.int .u8 0) 1 1 Try.underlying24 hi hz hsz hby rfl (by decide) _ (l.length + 1 + 1) _ rfl (World.ownsRow.alloc ho2 _) _ 1 _ rfl (rc_one _ _ _) (by intro u hu; have := List.mem_singleton.1 hu; subst this; rfl) (by unfold maxLen; omega) (by omega) (by simp; omega) ?_; intro v3 w3 ho3 hg3 _)
  have hs3 : w2.heap.size + 1 ≤ w3.heap.size := by have := hg3.size; simp at this; omega
  have hu3 := fun k hk => (ho3.lt k hk).1
  rw [rounds_succ]
  go_wp2_with (refine wpList_append_rc rfl _ _ 24 rfl base 5 i0 (.int .u8 0) 1 1 Try.underlying24 hi hz hsz hby rfl (by decide) _ (l.length + 1 + 1 + 1) _ rfl (World.ownsRow.alloc ho3 _) _ 1 _ rfl (rc_one _ _ _) (by intro u hu; have := List.mem_singleton.1 hu; subst this; rfl) (by unfold maxLen; omega) (by omega) (by simp; omega) ?_; intro v4 w4 ho4 hg4 _)
  have hs4 : w3.heap.size + 1 ≤ w4.heap.size := by have := hg4.size; simp at this; omega
  have hu4 := fun k hk => (ho4.lt k hk).1
  rw [rounds_succ]
  go_wp2_with fail
  go_ret
  have hb1 : Below base w w1 := ((Below.refl _ _).alloc (by omega) _).trans (grownBy_below hg1 (by simp; omega) hu0)
  have hb2 : Below base w1 w2 := ((Below.refl _ _).alloc (by omega) _).trans (grownBy_below hg2 (by simp; omega) hu1)
  have hb3 : Below base w2 w3 := ((Below.refl _ _).alloc (by omega) _).trans (grownBy_below hg3 (by simp; omega) hu2)
  have hb4 : Below base w3 w4 := ((Below.refl _ _).alloc (by omega) _).trans (grownBy_below hg4 (by simp; omega) hu3)
  refine ⟨_, rfl, ?_, (((hb1.trans hb2).trans hb3).trans hb4)⟩
  unfold OB
  rw [List.length_append, byteVals_append]
  simpa [byteVals, be4] using ho4

end Go.Proofs.Ytalhoahkbmeeeaa
