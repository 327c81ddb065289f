/- what the bytes of a container are; the laws for the walks that write them. -/
import Derived.Test.YtalhoahkbmeeeaaPut
namespace Go.Proofs.Ytalhoahkbmeeeaa
open Go.RowKit

def lens2 (ll : List (List Int)) : List Int := ll.flatMap fun p => be2 p.length
def lens4 (ll : List (List Int)) : List Int := ll.flatMap fun p => be4 p.length
def types4 (ts : List Ty) : List Int := ts.flatMap fun t => [t.1 % 256, t.2.1 % 256] ++ be2 t.2.2

/-- the header up to the sections' lengths, what stands behind it of nested containers, the data's -/
def ser1 (c : Cn) : List Int := [239, 0, 1, 1] ++ be2 (4 * c.codes.length) ++ [2] ++ be2 c.codes.length
def ser2 (c : Cn) : List Int := if 0 < c.subs.length then [3] ++ be2 c.subs.length ++ lens4 c.subs else []
def ser3 (c : Cn) : List Int := [255] ++ be2 c.size ++ [0]
def ser (c : Cn) : List Int := ser1 c ++ lens2 c.codes ++ ser2 c ++ ser3 c ++ types4 c.ts ++ c.codes.flatten ++ c.subs.flatten ++ c.data

theorem lens2_snoc {ll : List (List Int)} {k : Nat} (h : k < ll.length) : lens2 (ll.take (k + 1)) = lens2 (ll.take k) ++ be2 (gp ll k).length := by
  rw [take_snoc_gp h]; simp [lens2]
theorem lens4_snoc {ll : List (List Int)} {k : Nat} (h : k < ll.length) : lens4 (ll.take (k + 1)) = lens4 (ll.take k) ++ be4 (gp ll k).length := by
  rw [take_snoc_gp h]; simp [lens4]
theorem take_snoc_gt {ts : List Ty} {k : Nat} (h : k < ts.length) : ts.take (k + 1) = ts.take k ++ [gt ts k] := by
  rw [List.take_succ_eq_append_getElem h, gt_eq h]
theorem types4_snoc {ts : List Ty} {k : Nat} (h : k < ts.length) : types4 (ts.take (k + 1)) = types4 (ts.take k) ++ ([(gt ts k).1 % 256, (gt ts k).2.1 % 256] ++ be2 (gt ts k).2.2) := by
  rw [take_snoc_gt h]; simp [types4]
theorem flat_snoc {ll : List (List Int)} {k : Nat} (h : k < ll.length) : (ll.take (k + 1)).flatten = (ll.take k).flatten ++ gp ll k := by
  rw [take_snoc_gp h]; simp

theorem lens2_len (ll : List (List Int)) : (lens2 ll).length = 2 * ll.length := by
  induction ll with
  | nil => rfl
  | cons a r ih =>
    have e : lens2 (a :: r) = be2 a.length ++ lens2 r := by simp [lens2]
    have l : (be2 a.length).length = 2 := rfl
    rw [e, List.length_append, List.length_cons, ih, l]; omega
theorem lens4_len (ll : List (List Int)) : (lens4 ll).length = 4 * ll.length := by
  induction ll with
  | nil => rfl
  | cons a r ih =>
    have e : lens4 (a :: r) = be4 a.length ++ lens4 r := by simp [lens4]
    have l : (be4 a.length).length = 4 := rfl
    rw [e, List.length_append, List.length_cons, ih, l]; omega
theorem types4_len (ts : List Ty) : (types4 ts).length = 4 * ts.length := by
  induction ts with
  | nil => rfl
  | cons a r ih =>
    have e : types4 (a :: r) = ([a.1 % 256, a.2.1 % 256] ++ be2 a.2.2) ++ types4 r := by simp [types4]
    have l : ([a.1 % 256, a.2.1 % 256] ++ be2 a.2.2).length = 4 := rfl
    rw [e, List.length_append, List.length_cons, ih, l]; omega
theorem flat_len {ll : List (List Int)} {N : Nat} (h : ∀ i, i < ll.length → (gp ll i).length ≤ N) (k : Nat) (hk : k ≤ ll.length) : (ll.take k).flatten.length ≤ k * N := by
  induction k with
  | zero => simp
  | succ k ih =>
    rw [flat_snoc (by omega), List.length_append, Nat.add_mul]
    have := ih (by omega)
    have := h k (by omega)
    omega

theorem len_app {l m : List Int} {N M : Nat} (h : l.length ≤ N) (hm : m.length ≤ M) : (l ++ m).length ≤ N + M := by rw [List.length_append]; omega

/-- a literal of bytes, as buildSlice lays it -/
theorem rc_bytes (w : World) (l : List Int) (h : l.length ≤ 1000) : RC (w.alloc (.cells (byteVals l).toArray 5)) (.slice (some ⟨w.heap.size, 0, none⟩) l.length l.length) l.length 1 (byteVals l) := by
  have := RC.ofOwn (World.ownsRow_lit w (byteVals l).toArray l.length (base := 0) (size := 1) (e := 5) (Nat.zero_le _) (by unfold maxLen; omega) (by simp [byteVals]))
  simpa using this

theorem rc_cell {w : World} {g : Nat} {x : Int} (h : w.cell? ⟨g, 0, Option.none⟩ = some (.int .u8 x)) : RC w (.slice (some ⟨g, 0, Option.none⟩) 1 1) 1 1 (byteVals [x]) := by
  refine ⟨rfl, _, _, rfl, Nat.le_refl _, .inr ⟨g, 0, rfl, fun j hj => ?_⟩⟩
  have : j = 0 := by simp [byteVals] at hj; omega
  subst this
  exact h

theorem rc_cell2 {w : World} {g : Nat} {x y : Int} (h : w.cell? ⟨g, 0, Option.none⟩ = some (.int .u8 x)) (h' : w.cell? ⟨g, 1, Option.none⟩ = some (.int .u8 y)) : RC w (.slice (some ⟨g, 0, Option.none⟩) 2 2) 2 1 (byteVals [x, y]) := by
  refine ⟨rfl, _, _, rfl, Nat.le_refl _, .inr ⟨g, 0, rfl, fun j hj => ?_⟩⟩
  have : j = 0 ∨ j = 1 := by simp [byteVals] at hj; omega
  rcases this with rfl | rfl
  · exact h
  · exact h'

/-- cells of blocks that an append cannot have written -/
theorem grown_cells {W w' : World} {row : Option Nat} (hg : W.grownBy w' row) {lo : Nat} (hr : ∀ k, row = some k → k < lo) : ∀ b o, lo ≤ b → b < W.heap.size → w'.cell? ⟨b, o, Option.none⟩ = W.cell? ⟨b, o, Option.none⟩ :=
  fun b o h1 h2 => World.cell?_of_block (a := ⟨b, o, Option.none⟩) (hg.block b h2 (fun e => by have := hr b e.symm; omega))

theorem RC.drew {w : World} {v : Value} {n size : Nat} {cs : List Value} (h : RC w v n size cs) : RC w.drew v n size cs := h
theorem OB.alloc {w : World} {base : Nat} {v : Value} {l : List Int} (h : OB w base v l) (o : Obj) : OB (w.alloc o) base v l := World.ownsRow.alloc h o
theorem OB.drew {w : World} {base : Nat} {v : Value} {l : List Int} (h : OB w base v l) : OB w.drew base v l := h

theorem be4_two (n : Int) : be2 (n / 65536) ++ be2 n = be4 n := by
  have e : n / 65536 / 256 = n / 16777216 := by omega
  simp [be2, be4, e]

end Go.Proofs.Ytalhoahkbmeeeaa
