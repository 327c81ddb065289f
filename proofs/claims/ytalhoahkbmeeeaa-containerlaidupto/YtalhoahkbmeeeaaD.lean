/- Readings of memory as plain lists: a slice whose cells are known; bytes, types, parts, containers. -/
import Derived.Test.YtalhoahkbmeeeaaRows
import Derived.WalkKit
import Derived.WalkSpells
import Derived.WalkLawsBesides
import Derived.Deep.QuietTactic
import Derived.BigQuiet
import Derived.Deep.AppendSrc
import Derived.Lib.Hide
namespace Go.Proofs.Ytalhoahkbmeeeaa
open Go.RowKit

/-- v is a slice of n elements of size cells each, that are cs, in w. -/
def RC (w : World) (v : Value) (n size : Nat) (cs : List Value) : Prop :=
  cs.length = n * size ∧ ∃ a cap, v = .slice a n cap ∧ n ≤ cap ∧ (cs = [] ∨ ∃ b off, a = some ⟨b, off, none⟩ ∧ ∀ j (h : j < cs.length), w.cell? ⟨b, off + j, none⟩ = some cs[j])

theorem RC.below {w w' : World} {v : Value} {n size : Nat} {cs : List Value} {B : Nat} (h : RC w v n size cs) (hb : Below B w w') (hB : w.heap.size ≤ B) : RC w' v n size cs := by
  obtain ⟨hl, a, cap, hv, hc, hcs⟩ := h
  refine ⟨hl, a, cap, hv, hc, ?_⟩
  rcases hcs with h0 | ⟨b, off, ha, hj⟩
  · exact .inl h0
  · refine .inr ⟨b, off, ha, fun j h => ?_⟩
    have := hj j h
    rw [← this]
    have hlt : b < w.heap.size := World.block_lt_of_cell? w ⟨b, off + j, none⟩ this
    exact hb.cell (p := ⟨b, off + j, none⟩) (Nat.lt_of_lt_of_le hlt hB)

def byteVals (l : List Int) : List Value := l.map (Value.int .u8)

/-- bytes -/
def RB (w : World) (v : Value) (l : List Int) : Prop := RC w v l.length 1 (byteVals l)

theorem RB.below {w w' : World} {v : Value} {l : List Int} {B : Nat} (h : RB w v l) (hb : Below B w w') (hB : w.heap.size ≤ B) : RB w' v l := RC.below h hb hB

/-- the k-th number of a list; 0 beyond it (a plain def: the walk does not open it) -/
def gb (l : List Int) (k : Nat) : Int := l.getD k 0
theorem gb_eq {l : List Int} {k : Nat} (h : k < l.length) : gb l k = l[k] := by simp [gb, List.getD, h]

/-- empty, or its address and its cells -/
theorem RB.cases {w : World} {v : Value} {l : List Int} (h : RB w v l) :
    (l = [] ∧ ∃ a cap, v = .slice a 0 cap) ∨ (0 < l.length ∧ ∃ b off cap, v = .slice (some ⟨b, off, none⟩) l.length cap ∧ l.length ≤ cap ∧ ∀ j (_ : j < l.length), w.cell? ⟨b, off + j, none⟩ = some (.int .u8 (gb l j))) := by
  obtain ⟨hl, a, cap, hv, hc, hcs⟩ := h
  rcases hcs with h0 | ⟨b, off, ha, hj⟩
  · have : l = [] := by simpa [byteVals] using h0
    subst this
    exact .inl ⟨rfl, a, cap, hv⟩
  · by_cases hz : l.length = 0
    · have : l = [] := List.eq_nil_of_length_eq_zero hz
      subst this
      exact .inl ⟨rfl, a, cap, hv⟩
    · refine .inr ⟨by omega, b, off, cap, by rw [hv, ha], hc, fun j h => ?_⟩
      have := hj j (by simpa [byteVals] using h)
      rw [this]
      simp [byteVals, gb_eq h]

/-- the k-th part, the k-th value, the k-th type -/
def gp (ll : List (List Int)) (k : Nat) : List Int := ll.getD k []
def gv (vs : List Value) (k : Nat) : Value := vs.getD k undef
theorem gp_eq {ll : List (List Int)} {k : Nat} (h : k < ll.length) : gp ll k = ll[k] := by simp [gp, List.getD, h]
theorem gv_eq {vs : List Value} {k : Nat} (h : k < vs.length) : gv vs k = vs[k] := by simp [gv, List.getD, h]

/-- a list of byte lists -/
def RP (w : World) (v : Value) (ll : List (List Int)) : Prop :=
  ∃ vs : List Value, RC w v ll.length 1 vs ∧ ∀ i, i < ll.length → RB w (gv vs i) (gp ll i)

theorem RP.below {w w' : World} {v : Value} {ll : List (List Int)} {B : Nat} (h : RP w v ll) (hb : Below B w w') (hB : w.heap.size ≤ B) : RP w' v ll := by
  obtain ⟨vs, h1, h2⟩ := h
  exact ⟨vs, h1.below hb hB, fun i hi => (h2 i hi).below hb hB⟩

theorem RP.cases {w : World} {v : Value} {ll : List (List Int)} (h : RP w v ll) :
    (ll = [] ∧ ∃ a cap, v = .slice a 0 cap) ∨ (0 < ll.length ∧ ∃ b off cap vs, v = .slice (some ⟨b, off, none⟩) ll.length cap ∧ ll.length ≤ cap ∧ vs.length = ll.length ∧
      (∀ j (_ : j < ll.length), w.cell? ⟨b, off + j, none⟩ = some (gv vs j)) ∧ ∀ i, i < ll.length → RB w (gv vs i) (gp ll i)) := by
  obtain ⟨vs, ⟨hl, a, cap, hv, hc, hcs⟩, h2⟩ := h
  rw [Nat.mul_one] at hl
  rcases hcs with h0 | ⟨b, off, ha, hj⟩
  · have : ll = [] := List.eq_nil_of_length_eq_zero (by rw [← hl, h0]; rfl)
    subst this
    exact .inl ⟨rfl, a, cap, hv⟩
  · by_cases hz : ll.length = 0
    · have : ll = [] := List.eq_nil_of_length_eq_zero hz
      subst this
      exact .inl ⟨rfl, a, cap, hv⟩
    · refine .inr ⟨by omega, b, off, cap, vs, by rw [hv, ha], hc, hl, fun j h => ?_, h2⟩
      have hj' : j < vs.length := by omega
      rw [hj j hj', gv_eq hj']

/-- a type: what it takes, gives, the greatest height -/
abbrev Ty := Int × Int × Int
def gt (ts : List Ty) (k : Nat) : Ty := ts.getD k (0, 0, 0)
theorem gt_eq {ts : List Ty} {k : Nat} (h : k < ts.length) : gt ts k = ts[k] := by simp [gt, List.getD, h]
def tyVals (ts : List Ty) : List Value := ts.flatMap fun t => [.int .i64 t.1, .int .i64 t.2.1, .int .i64 t.2.2]

theorem tyVals_length (ts : List Ty) : (tyVals ts).length = ts.length * 3 := by
  induction ts with
  | nil => rfl
  | cons t r ih => simp only [tyVals, List.flatMap_cons, List.length_append, List.length_cons, List.length_nil] at ih ⊢; omega

theorem tyVals_at (ts : List Ty) : ∀ (k : Nat), k < ts.length →
    (tyVals ts)[3 * k]? = some (.int .i64 (gt ts k).1) ∧ (tyVals ts)[3 * k + 1]? = some (.int .i64 (gt ts k).2.1) ∧ (tyVals ts)[3 * k + 2]? = some (.int .i64 (gt ts k).2.2) := by
  induction ts with
  | nil => intro k h; simp at h
  | cons t r ih =>
    intro k h
    cases k with
    | zero => simp [tyVals, gt]
    | succ k =>
      have := ih k (by simpa using h)
      have e : gt (t :: r) (k + 1) = gt r k := by simp [gt]
      rw [e]
      have e2 : tyVals (t :: r) = [.int .i64 t.1, .int .i64 t.2.1, .int .i64 t.2.2] ++ tyVals r := by simp [tyVals]
      rw [e2]
      rw [List.getElem?_append_right (by simp; omega), List.getElem?_append_right (by simp; omega), List.getElem?_append_right (by simp; omega)]
      simp only [List.length_cons, List.length_nil]
      rw [show 3 * (k + 1) - (0 + 1 + 1 + 1) = 3 * k by omega, show 3 * (k + 1) + 1 - (0 + 1 + 1 + 1) = 3 * k + 1 by omega, show 3 * (k + 1) + 2 - (0 + 1 + 1 + 1) = 3 * k + 2 by omega]
      exact this

/-- a list of types -/
def RT (w : World) (v : Value) (ts : List Ty) : Prop := RC w v ts.length 3 (tyVals ts)

theorem RT.below {w w' : World} {v : Value} {ts : List Ty} {B : Nat} (h : RT w v ts) (hb : Below B w w') (hB : w.heap.size ≤ B) : RT w' v ts := RC.below h hb hB

/-- the first n types of ts lie at off in block b -/
def TyAt (w : World) (b off : Nat) (ts : List Ty) (n : Nat) : Prop :=
  ∀ j (_ : j < n), w.cell? ⟨b, off + j * 3, none⟩ = some (.int .i64 (gt ts j).1) ∧ w.cell? ⟨b, off + j * 3 + 1, none⟩ = some (.int .i64 (gt ts j).2.1) ∧ w.cell? ⟨b, off + j * 3 + 2, none⟩ = some (.int .i64 (gt ts j).2.2)

theorem cell_below {w w' : World} {B : Nat} (hb : Below B w w') (hB : w.heap.size ≤ B) {a : Addr} {v : Value} (h : w.cell? a = some v) : w'.cell? a = some v := by
  rw [hb.cell (Nat.lt_of_lt_of_le (World.block_lt_of_cell? w _ h) hB)]; exact h

theorem TyAt.below {w w' : World} {b off n : Nat} {ts : List Ty} {B : Nat} (h : TyAt w b off ts n) (hb : Below B w w') (hB : w.heap.size ≤ B) : TyAt w' b off ts n :=
  fun j hj => ⟨cell_below hb hB (h j hj).1, cell_below hb hB (h j hj).2.1, cell_below hb hB (h j hj).2.2⟩

theorem RT.cases {w : World} {v : Value} {ts : List Ty} (h : RT w v ts) :
    (ts = [] ∧ ∃ a cap, v = .slice a 0 cap) ∨ (0 < ts.length ∧ ∃ b off cap, v = .slice (some ⟨b, off, none⟩) ts.length cap ∧ ts.length ≤ cap ∧ TyAt w b off ts ts.length) := by
  obtain ⟨hl, a, cap, hv, hc, hcs⟩ := h
  have hl' := tyVals_length ts
  rcases hcs with h0 | ⟨b, off, ha, hj⟩
  · have : ts = [] := List.eq_nil_of_length_eq_zero (by rw [h0] at hl'; simp at hl'; omega)
    subst this
    exact .inl ⟨rfl, a, cap, hv⟩
  · by_cases hz : ts.length = 0
    · have : ts = [] := List.eq_nil_of_length_eq_zero hz
      subst this
      exact .inl ⟨rfl, a, cap, hv⟩
    · refine .inr ⟨by omega, b, off, cap, by rw [hv, ha], hc, fun j h => ?_⟩
      obtain ⟨e1, e2, e3⟩ := tyVals_at ts j h
      have h1 := hj (3 * j) (by omega)
      have h2 := hj (3 * j + 1) (by omega)
      have h3 := hj (3 * j + 2) (by omega)
      rw [List.getElem?_eq_getElem (by omega)] at e1 e2 e3
      rw [show off + j * 3 = off + 3 * j by omega, show off + 3 * j + 1 = off + (3 * j + 1) by omega, show off + 3 * j + 2 = off + (3 * j + 2) by omega, h1, h2, h3]
      exact ⟨e1, e2, e3⟩

/-- a container -/
structure Cn where
  ts : List Ty
  codes : List (List Int)
  subs : List (List Int)
  data : List Int
  size : Int
  deriving DecidableEq

def RCn (w : World) (v : Value) (c : Cn) : Prop :=
  ∃ vt vc vs vd, v = .agg #[vt, vc, vs, vd, .int .i64 c.size] ∧ RT w vt c.ts ∧ RP w vc c.codes ∧ RP w vs c.subs ∧ RB w vd c.data

theorem RCn.below {w w' : World} {v : Value} {c : Cn} {B : Nat} (h : RCn w v c) (hb : Below B w w') (hB : w.heap.size ≤ B) : RCn w' v c := by
  obtain ⟨vt, vc, vs, vd, hv, h1, h2, h3, h4⟩ := h
  exact ⟨vt, vc, vs, vd, hv, h1.below hb hB, h2.below hb hB, h3.below hb hB, h4.below hb hB⟩

/-- no list of it is longer than N -/
structure Cn.small (c : Cn) (N : Nat) : Prop where
  ts : c.ts.length ≤ N
  codes : c.codes.length ≤ N
  subs : c.subs.length ≤ N
  data : c.data.length ≤ N
  code : ∀ i, i < c.codes.length → (gp c.codes i).length ≤ N
  sub : ∀ i, i < c.subs.length → (gp c.subs i).length ≤ N

theorem drewN_below (B : Nat) (w : World) (n : Nat) : Below B w (w.drewN n) := ⟨rfl, rfl, rfl, Nat.le_refl _, fun _ _ => rfl⟩
theorem drewN_drewN (w : World) (a b : Nat) : (w.drewN a).drewN b = w.drewN (a + b) := by simp
theorem ret_bool {a b : Bool} (h : a = b) : Ending.returned (.bool a) = .returned (.bool b) := by rw [h]

end Go.Proofs.Ytalhoahkbmeeeaa
