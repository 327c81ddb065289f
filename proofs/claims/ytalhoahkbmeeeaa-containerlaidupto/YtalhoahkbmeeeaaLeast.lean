/- least (20): the least container there is. -/
import Derived.Test.YtalhoahkbmeeeaaSer
namespace Go.Proofs.Ytalhoahkbmeeeaa
open Go.RowKit

def leastCn : Cn := ⟨[(0, 128, 0)], [[0]], [], [], 0⟩

theorem least_may : leastCn.may := by
  refine ⟨by decide, by decide, rfl, by decide, by decide, by decide, ?_, ?_, ?_, ?_, ?_, ?_, ?_, ?_, ?_, ?_, rfl, rfl⟩ <;> intro k hk
  all_goals first
    | (exact absurd hk (Nat.not_lt_zero _))
    | (have h0 : k = 0 := by simp [leastCn] at hk; exact hk
       subst h0
       decide)

theorem least_small (N : Nat) (hN : 1 ≤ N) : leastCn.small N := by
  refine ⟨hN, hN, Nat.zero_le _, Nat.zero_le _, ?_, ?_⟩ <;> intro k hk
  · have h0 : k = 0 := by simp [leastCn] at hk; exact hk
    subst h0
    exact hN
  · exact absurd hk (Nat.not_lt_zero _)

theorem least_ser : ser leastCn = [239, 0, 1, 1, 0, 4, 2, 0, 1, 0, 1, 255, 0, 0, 0, 0, 128, 0, 0, 0] := by decide

theorem least_any (w : World) : Calls Try.prog 20 #[] w fun e w' => ∃ v, e = .returned v ∧ RCn w' v leastCn ∧ Below w.heap.size w w' := by
  go_enter Try.func20, Try.ntmps20
  go_wp2_with fail
  have hp : ∀ {a : World} {o : Obj} {b : Nat} {x : Obj}, a.heap[b]? = some x → (a.alloc o).heap[b]? = some x := fun {a o b x} h => by rw [Below.heap_alloc _ _ _ (Array.getElem?_eq_some_iff.1 h).1]; exact h
  obtain ⟨W, hW⟩ : ∃ W, W = ((((w.alloc (.cells #[.slice (some ⟨w.heap.size + 1, 0, none⟩) 1 1, .slice (some ⟨w.heap.size + 1 + 1 + 1, 0, none⟩) 1 1, .slice none 0 0, .slice none 0 0, .int .i64 0] 26)).alloc (.cells #[.int .i64 0, .int .i64 128, .int .i64 0] 53)).alloc (.cells #[.int .u8 0] 5)).alloc (.cells #[.slice (some ⟨w.heap.size + 1 + 1, 0, none⟩) 1 1] 24)) := ⟨_, rfl⟩
  have e0 : W.heap[w.heap.size]? = some (.cells #[.slice (some ⟨w.heap.size + 1, 0, none⟩) 1 1, .slice (some ⟨w.heap.size + 1 + 1 + 1, 0, none⟩) 1 1, .slice none 0 0, .slice none 0 0, .int .i64 0] 26) := by rw [hW]; exact hp (hp (hp (heap_alloc_new _ _)))
  have e1 : W.heap[w.heap.size + 1]? = some (.cells #[.int .i64 0, .int .i64 128, .int .i64 0] 53) := by
    rw [hW]
    refine hp (hp ?_)
    have := heap_alloc_new (w.alloc (.cells #[.slice (some ⟨w.heap.size + 1, 0, none⟩) 1 1, .slice (some ⟨w.heap.size + 1 + 1 + 1, 0, none⟩) 1 1, .slice none 0 0, .slice none 0 0, .int .i64 0] 26)) (.cells #[.int .i64 0, .int .i64 128, .int .i64 0] 53)
    simpa using this
  have e2 : W.heap[w.heap.size + 1 + 1]? = some (.cells #[.int .u8 0] 5) := by
    rw [hW]
    refine hp ?_
    have := heap_alloc_new ((w.alloc (.cells #[.slice (some ⟨w.heap.size + 1, 0, none⟩) 1 1, .slice (some ⟨w.heap.size + 1 + 1 + 1, 0, none⟩) 1 1, .slice none 0 0, .slice none 0 0, .int .i64 0] 26)).alloc (.cells #[.int .i64 0, .int .i64 128, .int .i64 0] 53)) (.cells #[.int .u8 0] 5)
    simpa using this
  have e3 : W.heap[w.heap.size + 1 + 1 + 1]? = some (.cells #[.slice (some ⟨w.heap.size + 1 + 1, 0, none⟩) 1 1] 24) := by
    rw [hW]
    have := heap_alloc_new (((w.alloc (.cells #[.slice (some ⟨w.heap.size + 1, 0, none⟩) 1 1, .slice (some ⟨w.heap.size + 1 + 1 + 1, 0, none⟩) 1 1, .slice none 0 0, .slice none 0 0, .int .i64 0] 26)).alloc (.cells #[.int .i64 0, .int .i64 128, .int .i64 0] 53)).alloc (.cells #[.int .u8 0] 5)) (.cells #[.slice (some ⟨w.heap.size + 1 + 1, 0, none⟩) 1 1] 24)
    simpa using this
  have hb : Below w.heap.size w W := by
    rw [hW]
    exact ((((Below.refl _ _).alloc (Nat.le_refl _) _).alloc (by simp) _).alloc (by simp; omega) _).alloc (by simp; omega) _
  rw [← hW]
  clear hW hp
  have k0 : W.cell? ⟨w.heap.size, 0, none⟩ = some (.slice (some ⟨w.heap.size + 1, 0, none⟩) 1 1) := by rw [cell_of_row _ _ _ _ _ _ e0]; rfl
  have k1 : W.cell? ⟨w.heap.size, 1, none⟩ = some (.slice (some ⟨w.heap.size + 1 + 1 + 1, 0, none⟩) 1 1) := by rw [cell_of_row _ _ _ _ _ _ e0]; rfl
  have k2 : W.cell? ⟨w.heap.size, 2, none⟩ = some (.slice none 0 0) := by rw [cell_of_row _ _ _ _ _ _ e0]; rfl
  have k3 : W.cell? ⟨w.heap.size, 3, none⟩ = some (.slice none 0 0) := by rw [cell_of_row _ _ _ _ _ _ e0]; rfl
  have k4 : W.cell? ⟨w.heap.size, 4, none⟩ = some (.int .i64 0) := by rw [cell_of_row _ _ _ _ _ _ e0]; rfl
  have rt : RT W (.slice (some ⟨w.heap.size + 1, 0, none⟩) 1 1) leastCn.ts := by
    refine ⟨rfl, _, _, rfl, Nat.le_refl _, .inr ⟨w.heap.size + 1, 0, rfl, fun j hj => ?_⟩⟩
    rw [cell_of_row _ _ _ _ _ _ e1]
    have : j = 0 ∨ j = 1 ∨ j = 2 := by have : j < 3 := hj; omega
    rcases this with rfl | rfl | rfl <;> rfl
  have rb : RB W (.slice (some ⟨w.heap.size + 1 + 1, 0, none⟩) 1 1) [0] := by
    refine ⟨rfl, _, _, rfl, Nat.le_refl _, .inr ⟨w.heap.size + 1 + 1, 0, rfl, fun j hj => ?_⟩⟩
    rw [cell_of_row _ _ _ _ _ _ e2]
    have : j = 0 := by have : j < 1 := hj; omega
    subst this
    rfl
  have rp : RP W (.slice (some ⟨w.heap.size + 1 + 1 + 1, 0, none⟩) 1 1) leastCn.codes := by
    refine ⟨[.slice (some ⟨w.heap.size + 1 + 1, 0, none⟩) 1 1], ⟨rfl, _, _, rfl, Nat.le_refl _, .inr ⟨w.heap.size + 1 + 1 + 1, 0, rfl, fun j hj => ?_⟩⟩, fun i hi => ?_⟩
    · rw [cell_of_row _ _ _ _ _ _ e3]
      have : j = 0 := by have : j < 1 := hj; omega
      subst this
      rfl
    · have : i = 0 := by have : i < 1 := hi; omega
      subst this
      exact rb
  exact bodyPost_ret (v := .agg #[.slice (some ⟨w.heap.size + 1, 0, none⟩) 1 1, .slice (some ⟨w.heap.size + 1 + 1 + 1, 0, none⟩) 1 1, .slice none 0 0, .slice none 0 0, .int .i64 0]) (by simp [results, Try.results20, go_sem, k0, k1, k2, k3, k4]) rfl
    ⟨_, rfl, ⟨_, _, _, _, rfl, rt, rp, ⟨[], ⟨rfl, none, 0, rfl, Nat.le_refl _, .inl rfl⟩, fun i hi => absurd hi (Nat.not_lt_zero _)⟩, ⟨rfl, none, 0, rfl, Nat.le_refl _, .inl rfl⟩⟩, hb⟩

end Go.Proofs.Ytalhoahkbmeeeaa
