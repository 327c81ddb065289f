/- put (27) again, with what it keeps: all blocks but its own. -/
import Derived.Test.YtalhoahkbmeeeaaRd
namespace Go.Proofs.Ytalhoahkbmeeeaa
open Go.RowKit

theorem Kp.step {S : Nat → Prop} {a w w' : World} {row : Option Nat} (h : Kp S a w) (hg : w.grownBy w' row) (hr : ∀ b, row = some b → S b ∨ a.heap.size ≤ b) : Kp S a w' :=
  ⟨hg.os.trans h.os, hg.tape.trans h.tape, hg.output.trans h.output, Nat.le_trans h.size hg.size, fun b hb hn => (hg.block b (Nat.lt_of_lt_of_le hb h.size) (fun e => by rcases hr b e.symm with h1 | h1; exact hn h1; omega)).trans (h.block b hb hn)⟩

/-- more bytes in a slice of the call's own; no other block has turned -/
def PutPost (w : World) (base : Nat) (v : Value) (l : List Int) (e : Ending) (w' : World) : Prop :=
  ∃ v', e = .returned v' ∧ OB w' base v' l ∧ Kp (fun b => v.ownBlock = some b) w w' ∧ ∀ b, v'.ownBlock = some b → v.ownBlock = some b ∨ w.heap.size ≤ b

set_option maxHeartbeats 1600000 in
theorem put2k {w : World} {base : Nat} {v : Value} {l : List Int} (n : Int) (h : OB w base v l) (hbase : base ≤ w.heap.size) (hl : l.length ≤ 100000000000000) :
    Calls Try.prog 27 #[v, .int .i64 n, .int .i64 2] w fun e w' => PutPost w base v (l ++ be2 n) e w' := by
  obtain ⟨i0, hi, hz, hsz, hby⟩ := info_parts info5
  have h0 : w.ownsRow base 5 1 v l.length (byteVals l) := h
  go_enter Try.func27, Try.ntmps27
  go_wp2_with fail
  refine wp_loop_rounds 3 ?_
  rw [rounds_succ]
  go_wp2_with (refine wpList_append_rc rfl _ _ 24 rfl base 5 i0 (.int .u8 0) 1 1 Try.underlying24 hi hz hsz hby rfl (by decide) _ (l.length) _ rfl (World.ownsRow.alloc h0 _) _ 1 _ rfl (rc_one _ _ _) (by intro u hu; have := List.mem_singleton.1 hu; subst this; rfl) (by unfold maxLen; omega) (by omega) (by simp; omega) ?_; intro v1 w1 ho1 hg1 hat1)
  have hs1 : w.heap.size + 1 ≤ w1.heap.size := by have := hg1.size; simp at this; omega
  have k1 : Kp (fun b => v.ownBlock = some b) w w1 := Kp.step ((Kp.refl _ _).alloc _) hg1 (fun b hb => .inl hb)
  have u1 : ∀ b, v1.ownBlock = some b → v.ownBlock = some b ∨ w.heap.size ≤ b := fun b hb => hat1.elim (fun e => .inl (e.symm.trans hb)) (fun e => .inr (by have := e.symm.trans hb; simp at this; omega))
  rw [rounds_succ]
  go_wp2_with (refine wpList_append_rc rfl _ _ 24 rfl base 5 i0 (.int .u8 0) 1 1 Try.underlying24 hi hz hsz hby rfl (by decide) _ (l.length + 1) _ rfl (World.ownsRow.alloc ho1 _) _ 1 _ rfl (rc_one _ _ _) (by intro u hu; have := List.mem_singleton.1 hu; subst this; rfl) (by unfold maxLen; omega) (by omega) (by simp; omega) ?_; intro v2 w2 ho2 hg2 hat2)
  have hs2 : w1.heap.size + 1 ≤ w2.heap.size := by have := hg2.size; simp at this; omega
  have k2 : Kp (fun b => v.ownBlock = some b) w w2 := Kp.step ((k1).alloc _) hg2 (fun b hb => u1 b hb)
  have u2 : ∀ b, v2.ownBlock = some b → v.ownBlock = some b ∨ w.heap.size ≤ b := fun b hb => hat2.elim (fun e => u1 b (e.symm.trans hb)) (fun e => .inr (by have := e.symm.trans hb; simp at this; omega))
  have K := Lib.hid k2
  have U := Lib.hid u2
  clear k1 u1 hat1 hg1 k2 u2 hat2 hg2
  rw [rounds_succ]
  go_wp2_with fail
  go_ret
  refine ⟨_, rfl, ?_, K.out, U.out⟩
  unfold OB
  rw [List.length_append, byteVals_append]
  simpa [byteVals, be2] using ho2

set_option maxHeartbeats 1600000 in
theorem put4k {w : World} {base : Nat} {v : Value} {l : List Int} (n : Int) (h : OB w base v l) (hbase : base ≤ w.heap.size) (hl : l.length ≤ 100000000000000) :
    Calls Try.prog 27 #[v, .int .i64 n, .int .i64 4] w fun e w' => PutPost w base v (l ++ be4 n) e w' := by
  obtain ⟨i0, hi, hz, hsz, hby⟩ := info_parts info5
  have h0 : w.ownsRow base 5 1 v l.length (byteVals l) := h
  go_enter Try.func27, Try.ntmps27
  go_wp2_with fail
  refine wp_loop_rounds 5 ?_
  rw [rounds_succ]
  go_wp2_with (refine wpList_append_rc rfl _ _ 24 rfl base 5 i0 (.int .u8 0) 1 1 Try.underlying24 hi hz hsz hby rfl (by decide) _ (l.length) _ rfl (World.ownsRow.alloc h0 _) _ 1 _ rfl (rc_one _ _ _) (by intro u hu; have := List.mem_singleton.1 hu; subst this; rfl) (by unfold maxLen; omega) (by omega) (by simp; omega) ?_; intro v1 w1 ho1 hg1 hat1)
  have hs1 : w.heap.size + 1 ≤ w1.heap.size := by have := hg1.size; simp at this; omega
  have k1 : Kp (fun b => v.ownBlock = some b) w w1 := Kp.step ((Kp.refl _ _).alloc _) hg1 (fun b hb => .inl hb)
  have u1 : ∀ b, v1.ownBlock = some b → v.ownBlock = some b ∨ w.heap.size ≤ b := fun b hb => hat1.elim (fun e => .inl (e.symm.trans hb)) (fun e => .inr (by have := e.symm.trans hb; simp at this; omega))
  rw [rounds_succ]
  go_wp2_with (refine wpList_append_rc rfl _ _ 24 rfl base 5 i0 (.int .u8 0) 1 1 Try.underlying24 hi hz hsz hby rfl (by decide) _ (l.length + 1) _ rfl (World.ownsRow.alloc ho1 _) _ 1 _ rfl (rc_one _ _ _) (by intro u hu; have := List.mem_singleton.1 hu; subst this; rfl) (by unfold maxLen; omega) (by omega) (by simp; omega) ?_; intro v2 w2 ho2 hg2 hat2)
  have hs2 : w1.heap.size + 1 ≤ w2.heap.size := by have := hg2.size; simp at this; omega
  have k2 : Kp (fun b => v.ownBlock = some b) w w2 := Kp.step ((k1).alloc _) hg2 (fun b hb => u1 b hb)
  have u2 : ∀ b, v2.ownBlock = some b → v.ownBlock = some b ∨ w.heap.size ≤ b := fun b hb => hat2.elim (fun e => u1 b (e.symm.trans hb)) (fun e => .inr (by have := e.symm.trans hb; simp at this; omega))
  rw [rounds_succ]
  go_wp2_with (refine wpList_append_rc rfl _ _ 24 rfl base 5 i0 (.int .u8 0) 1 1 Try.underlying24 hi hz hsz hby rfl (by decide) _ (l.length + 1 + 1) _ rfl (World.ownsRow.alloc ho2 _) _ 1 _ rfl (rc_one _ _ _) (by intro u hu; have := List.mem_singleton.1 hu; subst this; rfl) (by unfold maxLen; omega) (by omega) (by simp; omega) ?_; intro v3 w3 ho3 hg3 hat3)
  have hs3 : w2.heap.size + 1 ≤ w3.heap.size := by have := hg3.size; simp at this; omega
  have k3 : Kp (fun b => v.ownBlock = some b) w w3 := Kp.step ((k2).alloc _) hg3 (fun b hb => u2 b hb)
  have u3 : ∀ b, v3.ownBlock = some b → v.ownBlock = some b ∨ w.heap.size ≤ b := fun b hb => hat3.elim (fun e => u2 b (e.symm.trans hb)) (fun e => .inr (by have := e.symm.trans hb; simp at this; omega))
  rw [rounds_succ]
  go_wp2_with (refine wpList_append_rc rfl _ _ 24 rfl base 5 i0 (.int .u8 0) 1 1 Try.underlying24 hi hz hsz hby rfl (by decide) _ (l.length + 1 + 1 + 1) _ rfl (World.ownsRow.alloc ho3 _) _ 1 _ rfl (rc_one _ _ _) (by intro u hu; have := List.mem_singleton.1 hu; subst this; rfl) (by unfold maxLen; omega) (by omega) (by simp; omega) ?_; intro v4 w4 ho4 hg4 hat4)
  have hs4 : w3.heap.size + 1 ≤ w4.heap.size := by have := hg4.size; simp at this; omega
  have k4 : Kp (fun b => v.ownBlock = some b) w w4 := Kp.step ((k3).alloc _) hg4 (fun b hb => u3 b hb)
  have u4 : ∀ b, v4.ownBlock = some b → v.ownBlock = some b ∨ w.heap.size ≤ b := fun b hb => hat4.elim (fun e => u3 b (e.symm.trans hb)) (fun e => .inr (by have := e.symm.trans hb; simp at this; omega))
  have K := Lib.hid k4
  have U := Lib.hid u4
  clear k1 u1 hat1 hg1 k2 u2 hat2 hg2 k3 u3 hat3 hg3 k4 u4 hat4 hg4
  rw [rounds_succ]
  go_wp2_with fail
  go_ret
  refine ⟨_, rfl, ?_, K.out, U.out⟩
  unfold OB
  rw [List.length_append, byteVals_append]
  simpa [byteVals, be4] using ho4

end Go.Proofs.Ytalhoahkbmeeeaa
