/- twin (9): a container in new memory that reads the same. -/
import Derived.Test.YtalhoahkbmeeeaaOwnParts
namespace Go.Proofs.Ytalhoahkbmeeeaa
open Go.RowKit

theorem tyVals_one (l : List Ty) : ∀ u ∈ tyVals l, u.oneCell' = true := by
  intro u hu
  obtain ⟨x, -, hx⟩ := List.mem_flatMap.1 hu
  simp at hx
  rcases hx with rfl | rfl | rfl <;> rfl

theorem drew_below (B : Nat) (w : World) : Below B w w.drew := ⟨rfl, rfl, rfl, Nat.le_refl _, fun _ _ => rfl⟩

/-- what a function sees of the container that it has boxed, and of the block that is to hold its result, whatever was made meanwhile -/
def TwinS (w W0 : World) (vt vc vs vd : Value) (z : Int) (w' : World) : Prop :=
  w'.cell? ⟨w.heap.size, 0, none⟩ = some vt ∧ w'.cell? ⟨w.heap.size, 1, none⟩ = some vc ∧ w'.cell? ⟨w.heap.size, 2, none⟩ = some vs ∧ w'.cell? ⟨w.heap.size, 3, none⟩ = some vd ∧ w'.cell? ⟨w.heap.size, 4, none⟩ = some (.int .i64 z) ∧
    w'.heap[w.heap.size + 1]? = some (.cells #[.slice none 0 0, .slice none 0 0, .slice none 0 0, .slice none 0 0, .int .i64 0] 26) ∧
    Below (w.heap.size + 2) W0 w' ∧ w.heap.size + 2 ≤ w'.heap.size

theorem TwinS.next {w W0 W W' : World} {vt vc vs vd : Value} {z : Int} (h : TwinS w W0 vt vc vs vd z W) (hb : Below W.heap.size W W') : TwinS w W0 vt vc vs vd z W' := by
  obtain ⟨c0, c1, c2, c3, c4, hr, hB, hs⟩ := h
  have k := fun {a : Addr} {v : Value} (h : W.cell? a = some v) => cell_below hb (Nat.le_refl _) h
  exact ⟨k c0, k c1, k c2, k c3, k c4, (hb.block _ (by omega)).trans hr, hB.trans (hb.mono hs), Nat.le_trans hs hb.size⟩

theorem boxed_below0' (w : World) (A B : Array Value) : Below w.heap.size w ((w.alloc (.cells A 26)).alloc (.cells B 26)) :=
  ((Below.refl _ _).alloc (Nat.le_refl _) _).alloc (by simp) _

theorem twinS0 (w : World) (vt vc vs vd : Value) (z : Int) :
    TwinS w ((w.alloc (.cells #[vt, vc, vs, vd, .int .i64 z] 26)).alloc (.cells #[.slice none 0 0, .slice none 0 0, .slice none 0 0, .slice none 0 0, .int .i64 0] 26)) vt vc vs vd z ((w.alloc (.cells #[vt, vc, vs, vd, .int .i64 z] 26)).alloc (.cells #[.slice none 0 0, .slice none 0 0, .slice none 0 0, .slice none 0 0, .int .i64 0] 26)) := by
  have k : ∀ (B : Array Value) j (u : Value), #[vt, vc, vs, vd, Value.int .i64 z][j]? = some u → ((w.alloc (.cells #[vt, vc, vs, vd, .int .i64 z] 26)).alloc (.cells B 26)).cell? ⟨w.heap.size, j, none⟩ = some u := by
    intro B j u h
    rw [World.cell?_alloc_past _ _ _ (by simp), World.cell?_alloc_at _ _ _ _ rfl]
    exact h
  exact ⟨k _ 0 _ rfl, k _ 1 _ rfl, k _ 2 _ rfl, k _ 3 _ rfl, k _ 4 _ rfl, by have := heap_alloc_new (w.alloc (.cells #[vt, vc, vs, vd, .int .i64 z] 26)) (.cells #[.slice none 0 0, .slice none 0 0, .slice none 0 0, .slice none 0 0, .int .i64 0] 26); simpa using this, Below.refl _ _, by simp⟩

theorem TwinS.five {w W0 W : World} {vt vc vs vd : Value} {z : Int} (h : TwinS w W0 vt vc vs vd z W) :
    W.cell? ⟨w.heap.size, 0, none⟩ = some vt ∧ W.cell? ⟨w.heap.size, 1, none⟩ = some vc ∧ W.cell? ⟨w.heap.size, 2, none⟩ = some vs ∧ W.cell? ⟨w.heap.size, 3, none⟩ = some vd ∧ W.cell? ⟨w.heap.size, 4, none⟩ = some (.int .i64 z) :=
  ⟨h.1, h.2.1, h.2.2.1, h.2.2.2.1, h.2.2.2.2.1⟩

/-- the result's block, cell by cell -/
theorem TwinS.res {w W0 W : World} {vt vc vs vd : Value} {z : Int} (h : TwinS w W0 vt vc vs vd z W) :
    W.cell? ⟨w.heap.size + 1, 0, none⟩ = some (.slice none 0 0) ∧ W.cell? ⟨w.heap.size + 1, 1, none⟩ = some (.slice none 0 0) ∧ W.cell? ⟨w.heap.size + 1, 2, none⟩ = some (.slice none 0 0) ∧ W.cell? ⟨w.heap.size + 1, 3, none⟩ = some (.slice none 0 0) ∧ W.cell? ⟨w.heap.size + 1, 4, none⟩ = some (.int .i64 0) ∧
      (∀ j, W.frozen? ⟨w.heap.size + 1, j, none⟩ = false) := by
  have hr := h.2.2.2.2.2.1
  refine ⟨by rw [cell_of_row W _ _ _ _ _ hr]; rfl, by rw [cell_of_row W _ _ _ _ _ hr]; rfl, by rw [cell_of_row W _ _ _ _ _ hr]; rfl, by rw [cell_of_row W _ _ _ _ _ hr]; rfl, by rw [cell_of_row W _ _ _ _ _ hr]; rfl, fun j => frozen_of_row W _ _ _ _ hr⟩

/-- five cells of one block stored -/
abbrev set5 (w : World) (g : Nat) (x0 x1 x2 x3 x4 : Value) : World :=
  ((((w.setCell ⟨g, 0, none⟩ x0).setCell ⟨g, 1, none⟩ x1).setCell ⟨g, 2, none⟩ x2).setCell ⟨g, 3, none⟩ x3).setCell ⟨g, 4, none⟩ x4

theorem own_set5 {w : World} {base e size n : Nat} {v : Value} {xs : List Value} (h : w.ownsRow base e size v n xs) {g : Nat} (hg : g < base) (x0 x1 x2 x3 x4 : Value) : (set5 w g x0 x1 x2 x3 x4).ownsRow base e size v n xs :=
  ownsRow_setCell_below (ownsRow_setCell_below (ownsRow_setCell_below (ownsRow_setCell_below (ownsRow_setCell_below h hg _) hg _) hg _) hg _) hg _

theorem parts_set5 {w : World} {base : Nat} {v : Value} {vs : List Value} {ll : List (List Int)} (h : OwnParts w base v vs ll) {g : Nat} (hg : g < base) (x0 x1 x2 x3 x4 : Value) : OwnParts (set5 w g x0 x1 x2 x3 x4) base v vs ll :=
  ((((h.setCell hg _).setCell hg _).setCell hg _).setCell hg _).setCell hg _

theorem below_set5 {w0 w : World} {B : Nat} (h : Below B w0 w) {g : Nat} (hg : B ≤ g) (x0 x1 x2 x3 x4 : Value) : Below B w0 (set5 w g x0 x1 x2 x3 x4) :=
  ((((h.setCell (p := ⟨g, 0, none⟩) hg _).setCell (p := ⟨g, 1, none⟩) hg _).setCell (p := ⟨g, 2, none⟩) hg _).setCell (p := ⟨g, 3, none⟩) hg _).setCell (p := ⟨g, 4, none⟩) hg _

set_option maxHeartbeats 1600000 in
theorem twin_any {w : World} {v : Value} {c : Cn} (h : RCn w v c) (hm : c.small 1000000000) :
    Calls Try.prog 9 #[v] w fun e w' => ∃ v', e = .returned v' ∧ RCn w' v' c ∧ Below w.heap.size w w' := by
  obtain ⟨vt, vc, vs, vd, rfl, h1, h2, h3, h4⟩ := h
  obtain ⟨i0, hi, hz, hsz, hby⟩ := info_parts info53
  have HT := Lib.hid (fun W (hW : Below w.heap.size w W) => h1.below hW (Nat.le_refl _))
  have HC := Lib.hid (fun W (hW : Below w.heap.size w W) => ownParts_any (h2.below hW (Nat.le_refl _)) hm.codes hm.code)
  have HS := Lib.hid (fun W (hW : Below w.heap.size w W) => ownParts_any (h3.below hW (Nat.le_refl _)) hm.subs hm.sub)
  have HD := Lib.hid (fun W (hW : Below w.heap.size w W) => own_any (h4.below hW (Nat.le_refl _)) hm.data)
  have hts := hm.ts
  clear h1 h2 h3 h4
  go_enter Try.func9, Try.ntmps9
  go_wp2_with fail
  obtain ⟨W0, hW0⟩ : ∃ W0, W0 = (w.alloc (.cells #[vt, vc, vs, vd, .int .i64 c.size] 26)).alloc (.cells #[.slice none 0 0, .slice none 0 0, .slice none 0 0, .slice none 0 0, .int .i64 0] 26) := ⟨_, rfl⟩
  have hB0 : Below w.heap.size w W0 := by rw [hW0]; exact boxed_below0' w _ _
  have hS0 : TwinS w W0 vt vc vs vd c.size W0 := by rw [hW0]; exact twinS0 w vt vc vs vd c.size
  rw [← hW0]
  clear hW0
  have hS0d : TwinS w W0 vt vc vs vd c.size W0.drew := TwinS.next hS0 (drew_below _ _)
  have k0 := hS0d.five
  have HBW := Lib.hid (fun W (h : TwinS w W0 vt vc vs vd c.size W) => (hB0.trans (h.2.2.2.2.2.2.1.mono (by omega)) : Below w.heap.size w W))
  have HH := Lib.hid (fun W (h : TwinS w W0 vt vc vs vd c.size W) => (h.2.2.2.2.2.2.2 : w.heap.size + 2 ≤ W.heap.size))
  clear hB0
  go_region_held3 (fun w' => w'.cell? ⟨w.heap.size, 0, none⟩ = some vt ∧ w'.cell? ⟨w.heap.size, 1, none⟩ = some vc ∧ w'.cell? ⟨w.heap.size, 2, none⟩ = some vs ∧ w'.cell? ⟨w.heap.size, 3, none⟩ = some vd ∧ w'.cell? ⟨w.heap.size, 4, none⟩ = some (.int .i64 c.size))
    (first
      | with_reducible exact k4
      | with_reducible exact k3
      | with_reducible exact k2
      | with_reducible exact k1
      | with_reducible exact k0
      | go_keep)
    (first
      | (refine step_append_rc rfl _ _ 22 rfl (w.heap.size + 2) 53 i0 _ 3 24 Try.underlying22 hi hz hsz hby rfl (by decide) _ 0 [] rfl (World.ownsRow_nil _ _ _ _) vt c.ts.length (tyVals c.ts) rfl (HT.out _ (HBW.out _ hS0d)) (tyVals_one _) (by unfold maxLen; omega) (by omega) (HH.out _ hS0d) ?_
         intro v1 w1 ho1 hg1 _
         have hb1 := grownBy_below hg1 (Nat.le_refl _) (fun k hk => by cases hk)
         have hS1 := TwinS.next hS0d hb1
         have k1 := hS1.five
         rw [Nat.zero_add, List.nil_append] at ho1
         obtain ⟨a1, c1, hv1⟩ := ownsRow_slice ho1
         subst hv1)
      | (go_at_call_of 24 vc; refine (HC.out _ (HBW.out _ hS1)).mono ?_; rintro e w2 ⟨a2, c2, us2, rfl, ho2, hb2⟩; have hS2 := TwinS.next hS1 hb2; have k2 := hS2.five)
      | (go_at_call_of 24 vs; refine (HS.out _ (HBW.out _ hS2)).mono ?_; rintro e w3 ⟨a3, c3, us3, rfl, ho3, hb3⟩; have hS3 := TwinS.next hS2 hb3; have k3 := hS3.five)
      | (go_at_call 10; refine (HD.out _ (HBW.out _ hS3)).mono ?_; rintro e w4 ⟨a4, c4, rfl, ho4, hb4⟩; have hS4 := TwinS.next hS3 hb4; have k4 := hS4.five; obtain ⟨r0, r1, r2, r3, r4, rf⟩ := hS4.res))
  go_wp2
  have hs1 : w.heap.size + 2 ≤ w1.heap.size := hS1.2.2.2.2.2.2.2
  have hs2 : w1.heap.size ≤ w2.heap.size := hb2.size
  have hs3 : w2.heap.size ≤ w3.heap.size := hb3.size
  have hs4 := hb4.size
  have f1 := own_set5 (ownsRow_below (ownsRow_below (ownsRow_below ho1 hb2 (Nat.le_refl _)) hb3 (Nat.le_refl _)) hb4 (Nat.le_refl _)) (g := w.heap.size + 1) (by omega) (.slice a1 c.ts.length c1) (.slice a2 c.codes.length c2) (.slice a3 c.subs.length c3) (.slice a4 c.data.length c4) (.int .i64 c.size)
  have f2 := parts_set5 ((ho2.below hb3 (Nat.le_refl _)).below hb4 (Nat.le_refl _)) (g := w.heap.size + 1) (by omega) (.slice a1 c.ts.length c1) (.slice a2 c.codes.length c2) (.slice a3 c.subs.length c3) (.slice a4 c.data.length c4) (.int .i64 c.size)
  have f3 := parts_set5 (ho3.below hb4 (Nat.le_refl _)) (g := w.heap.size + 1) (by omega) (.slice a1 c.ts.length c1) (.slice a2 c.codes.length c2) (.slice a3 c.subs.length c3) (.slice a4 c.data.length c4) (.int .i64 c.size)
  have f4 := own_set5 ho4 (g := w.heap.size + 1) (by omega) (.slice a1 c.ts.length c1) (.slice a2 c.codes.length c2) (.slice a3 c.subs.length c3) (.slice a4 c.data.length c4) (.int .i64 c.size)
  have f5 := below_set5 (HBW.out _ hS4) (g := w.heap.size + 1) (by omega) (.slice a1 c.ts.length c1) (.slice a2 c.codes.length c2) (.slice a3 c.subs.length c3) (.slice a4 c.data.length c4) (.int .i64 c.size)
  refine bodyPost_ret (v := .agg #[.slice a1 c.ts.length c1, .slice a2 c.codes.length c2, .slice a3 c.subs.length c3, .slice a4 c.data.length c4, .int .i64 c.size]) (by simp [results, Try.results9, go_sem, r0, r1, r2, r3, r4]) rfl ⟨_, rfl, ?_, f5⟩
  exact ⟨_, _, _, _, rfl, RC.ofOwn f1, f2.rp, f3.rp, RC.ofOwn f4⟩
end Go.Proofs.Ytalhoahkbmeeeaa
