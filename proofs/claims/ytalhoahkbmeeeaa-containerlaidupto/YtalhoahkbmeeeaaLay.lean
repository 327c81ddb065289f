/- Lay (8) of a container that may be. -/
import Derived.Test.YtalhoahkbmeeeaaClone
import Derived.Deep.DeepCutAuto
namespace Go.Proofs.Ytalhoahkbmeeeaa
open Go.RowKit

def zeroCn : Value := .agg #[.slice none 0 0, .slice none 0 0, .slice none 0 0, .slice none 0 0, .int .i64 0]

/-- the world behind the boxes of a function that takes a container and hands one back -/
def twoBoxes (w : World) (vt vc vs vd : Value) (z : Int) : World :=
  (w.alloc (.cells #[vt, vc, vs, vd, .int .i64 z] 26)).alloc (.cells #[.slice none 0 0, .slice none 0 0, .slice none 0 0, .slice none 0 0, .int .i64 0] 26)

set_option maxHeartbeats 800000 in
theorem lay_cut {w : World} {v vb : Value} {c : Cn} {l : List Int} (h : RCn w v c) (hm : c.may) (hb : RB w vb l) (hl : l.length ≤ 1000000000) (hn : (c.data.length : Int) + l.length < c.size) :
    Calls Try.prog 8 #[v, vb] w fun e w' => e = .returned (.tuple #[zeroCn, .int .i64 50]) ∧ Below w.heap.size w w' := by
  unfold zeroCn
  obtain ⟨at_, ct, ac, cc, as_, cs, ad, cd, rfl, h1, h2, h3, h4⟩ := h.open
  obtain ⟨ab, cb, rfl⟩ := RC.slice hb
  have hS0 := twinS0 w (.slice at_ c.ts.length ct) (.slice ac c.codes.length cc) (.slice as_ c.subs.length cs) (.slice ad c.data.length cd) c.size
  have hB0 := boxed_below0' w #[.slice at_ c.ts.length ct, .slice ac c.codes.length cc, .slice as_ c.subs.length cs, .slice ad c.data.length cd, .int .i64 c.size] #[.slice none 0 0, .slice none 0 0, .slice none 0 0, .slice none 0 0, .int .i64 0]
  have HC := Lib.hid (check_any (h.below hB0 (Nat.le_refl _)) hm)
  have HS0 := Lib.hid hS0
  have HB0 := Lib.hid hB0
  have hd := hm.data
  have hsz := hm.size
  clear hS0 hB0 h h1 h2 h3 h4 hb
  go_enter Try.func8, Try.ntmps8
  go_wp2_with fail
  refine HC.out.mono ?_
  rintro e w1 ⟨rfl, hb1⟩
  have hS1 := HS0.out.next hb1
  obtain ⟨k0, k1, k2, k3, k4⟩ := hS1.five
  obtain ⟨r0, r1, r2, r3, r4, rf⟩ := hS1.res
  have HB1 := Lib.hid (HB0.out.trans (hb1.mono (by simp; omega)) : Below w.heap.size w w1)
  clear hb1 hS1
  go_wp2
  exact bodyPost_ret (v := .tuple #[.agg #[.slice none 0 0, .slice none 0 0, .slice none 0 0, .slice none 0 0, .int .i64 0], .int .i64 50]) (by simp [results, Try.results8, go_sem, r0, r1, r2, r3, r4]) rfl
    ⟨rfl, below_set5 HB1.out (by omega) _ _ _ _ _⟩

set_option maxHeartbeats 800000 in
theorem lay_long {w : World} {v vb : Value} {c : Cn} {l : List Int} (h : RCn w v c) (hm : c.may) (hb : RB w vb l) (hl : l.length ≤ 1000000000) (hn : c.size ≤ (c.data.length : Int) + l.length) (hn' : 65535 < (c.data.length : Int) + l.length) :
    Calls Try.prog 8 #[v, vb] w fun e w' => e = .returned (.tuple #[zeroCn, .int .i64 2]) ∧ Below w.heap.size w w' := by
  unfold zeroCn
  obtain ⟨at_, ct, ac, cc, as_, cs, ad, cd, rfl, h1, h2, h3, h4⟩ := h.open
  obtain ⟨ab, cb, rfl⟩ := RC.slice hb
  have hS0 := twinS0 w (.slice at_ c.ts.length ct) (.slice ac c.codes.length cc) (.slice as_ c.subs.length cs) (.slice ad c.data.length cd) c.size
  have hB0 := boxed_below0' w #[.slice at_ c.ts.length ct, .slice ac c.codes.length cc, .slice as_ c.subs.length cs, .slice ad c.data.length cd, .int .i64 c.size] #[.slice none 0 0, .slice none 0 0, .slice none 0 0, .slice none 0 0, .int .i64 0]
  have HC := Lib.hid (check_any (h.below hB0 (Nat.le_refl _)) hm)
  have HS0 := Lib.hid hS0
  have HB0 := Lib.hid hB0
  have hd := hm.data
  have hsz := hm.size
  clear hS0 hB0 h h1 h2 h3 h4 hb
  go_enter Try.func8, Try.ntmps8
  go_wp2_with fail
  refine HC.out.mono ?_
  rintro e w1 ⟨rfl, hb1⟩
  have hS1 := HS0.out.next hb1
  obtain ⟨k0, k1, k2, k3, k4⟩ := hS1.five
  obtain ⟨r0, r1, r2, r3, r4, rf⟩ := hS1.res
  have HB1 := Lib.hid (HB0.out.trans (hb1.mono (by simp; omega)) : Below w.heap.size w w1)
  clear hb1 hS1
  go_wp2
  exact bodyPost_ret (v := .tuple #[.agg #[.slice none 0 0, .slice none 0 0, .slice none 0 0, .slice none 0 0, .int .i64 0], .int .i64 2]) (by simp [results, Try.results8, go_sem, r0, r1, r2, r3, r4]) rfl
    ⟨rfl, below_set5 HB1.out (by omega) _ _ _ _ _⟩


theorem bcell {W w1 : World} (hb : Below W.heap.size W w1) : (∀ b o, b < W.heap.size → w1.cell? ⟨b, o, none⟩ = W.cell? ⟨b, o, none⟩) ∧ (∀ b o, b < W.heap.size → w1.frozen? ⟨b, o, none⟩ = W.frozen? ⟨b, o, none⟩) :=
  ⟨fun b o h => hb.cell (p := ⟨b, o, none⟩) h, fun b o h => hb.frozen (p := ⟨b, o, none⟩) h⟩

/-- the box at g, and that nothing below w1's blocks has turned -/
theorem run_make_rowN {P : Program} (t e : TypeId) (i : TypeInfo) (z : Value) (ht : P.underlying t = some (.slice e)) (hi : P.info? e = some i) (hz : i.zero = some z)
    (kl kc : IntKind) (n c : Nat) (hnc : n ≤ c) (hbytes : i.bytes * c ≤ 281474976710656) (h63 : c ≤ 9223372036854775807) (w : World) :
    (Instr.makeSlice t (.int kl (n : Int)) (.int kc (c : Int))).run P w = .ok (.slice (some ⟨w.heap.size, 0, none⟩) n c) (w.alloc (.cells (madeCells z.cells (c * i.size)) e)) := by
  have hb : (i.bytes : Int) * (c : Int) ≤ 281474976710656 := by
    have h : ((i.bytes * c : Nat) : Int) ≤ 281474976710656 := by omega
    rwa [Int.natCast_mul] at h
  have hr := run_make (P := P) w t e i z ht hi hz kl kc n c (by omega) (by omega) hb (by omega)
  simp only [Int.toNat_natCast] at hr
  exact hr

abbrev LayS (w1 : World) (g : Nat) (vt vc vs vd : Value) (z : Int) (W : World) : Prop :=
  W.cell? ⟨g, 0, none⟩ = some vt ∧ W.cell? ⟨g, 1, none⟩ = some vc ∧ W.cell? ⟨g, 2, none⟩ = some vs ∧ W.cell? ⟨g, 3, none⟩ = some vd ∧ W.cell? ⟨g, 4, none⟩ = some (.int .i64 z) ∧ Below w1.heap.size w1 W

theorem LayS.next {w1 W W' : World} {g : Nat} {vt vc vs vd : Value} {z : Int} (h : LayS w1 g vt vc vs vd z W) (hb : Below W.heap.size W W') : LayS w1 g vt vc vs vd z W' := by
  obtain ⟨c0, c1, c2, c3, c4, hB⟩ := h
  have k := fun {a : Addr} {v : Value} (h : W.cell? a = some v) => cell_below hb (Nat.le_refl _) h
  exact ⟨k c0, k c1, k c2, k c3, k c4, hB.trans (hb.mono hB.size)⟩

theorem LayS.alloc {w1 W : World} {g : Nat} {vt vc vs vd : Value} {z : Int} (h : LayS w1 g vt vc vs vd z W) (o : Obj) : LayS w1 g vt vc vs vd z (W.alloc o) := h.next ((Below.refl _ _).alloc (Nat.le_refl _) o)

theorem LayS.set5 {w1 W : World} {g g' : Nat} {vt vc vs vd : Value} {z : Int} (h : LayS w1 g vt vc vs vd z W) (hg : g < w1.heap.size) (hg' : w1.heap.size ≤ g') (x0 x1 x2 x3 x4 : Value) : LayS w1 g vt vc vs vd z (set5 W g' x0 x1 x2 x3 x4) := by
  obtain ⟨c0, c1, c2, c3, c4, hB⟩ := h
  have hb : Below w1.heap.size W (Go.Proofs.Ytalhoahkbmeeeaa.set5 W g' x0 x1 x2 x3 x4) := below_set5 (Below.refl _ _) hg' _ _ _ _ _
  have k := fun {j : Nat} {v : Value} (h : W.cell? ⟨g, j, none⟩ = some v) => (hb.cell (p := ⟨g, j, none⟩) hg).trans h
  exact ⟨k c0, k c1, k c2, k c3, k c4, hB.trans hb⟩

theorem LayS.realloc {w1 W : World} {g : Nat} {vt vc vs vd : Value} {z : Int} {o : Obj} (h : LayS w1 g vt vc vs vd z (W.alloc o)) (hg : g < w1.heap.size) (hW : w1.heap.size ≤ W.heap.size) (o' : Obj) : LayS w1 g vt vc vs vd z (W.alloc o') := by
  obtain ⟨c0, c1, c2, c3, c4, hB⟩ := h
  have hb : Below w1.heap.size (W.alloc o) (W.alloc o') := ⟨rfl, rfl, rfl, by simp, fun k hk => by rw [Below.heap_alloc _ _ _ (by omega), Below.heap_alloc _ _ _ (by omega)]⟩
  have k := fun {j : Nat} {v : Value} (h : (W.alloc o).cell? ⟨g, j, none⟩ = some v) => (hb.cell (p := ⟨g, j, none⟩) hg).trans h
  exact ⟨k c0, k c1, k c2, k c3, k c4, hB.trans hb⟩

theorem LayS.alloc_drew {w1 W : World} {g : Nat} {vt vc vs vd : Value} {z : Int} (h : LayS w1 g vt vc vs vd z W.drew) (o : Obj) : LayS w1 g vt vc vs vd z (W.alloc o).drew :=
  LayS.next h (W' := (W.alloc o).drew) ⟨rfl, rfl, rfl, by simp, fun k hk => Below.heap_alloc W o k hk⟩

theorem LayS.below {w1 W : World} {g : Nat} {vt vc vs vd : Value} {z : Int} (h : LayS w1 g vt vc vs vd z W) : Below w1.heap.size w1 W := h.2.2.2.2.2

/-- v's block, if it has one, is below B -/
def Under (v : Value) (B : Nat) : Prop := ∀ b, v.ownBlock = some b → b < B

theorem Under.of {w : World} {base e size n : Nat} {v : Value} {xs : List Value} (h : w.ownsRow base e size v n xs) {B : Nat} (hB : w.heap.size ≤ B) : Under v B := fun b hb => Nat.lt_of_lt_of_le (h.lt b hb).2 hB

theorem ownsRow_setCell_ne {w : World} {base e size n : Nat} {v : Value} {xs : List Value} (h : w.ownsRow base e size v n xs) {a : Addr} (ha : v.ownBlock ≠ some a.block) (u : Value) : (w.setCell a u).ownsRow base e size v n xs := by
  refine ⟨h.1, ?_⟩
  rcases h.2 with h2 | ⟨g, cap, cur, hv, hg, hh, r⟩
  · exact .inl h2
  · refine .inr ⟨g, cap, cur, hv, hg, ?_, r⟩
    rw [Below.heap_setCell _ _ _ _ (by rintro rfl; exact ha (by rw [hv]; rfl))]
    exact hh

theorem OwnParts.setCell_ne {w : World} {base : Nat} {v : Value} {vs : List Value} {ll : List (List Int)} (h : OwnParts w base v vs ll) {a : Addr} (h1 : v.ownBlock ≠ some a.block) (h2 : ∀ i, i < ll.length → (gv vs i).ownBlock ≠ some a.block) (u : Value) : OwnParts (w.setCell a u) base v vs ll :=
  ⟨ownsRow_setCell_ne h.row h1 u, fun i hi => ownsRow_setCell_ne (h.each i hi) (h2 i hi) u, h.part, h.outer⟩

/-- all blocks of a list of parts are below B -/
structure UnderParts (v : Value) (vs : List Value) (n B : Nat) : Prop where
  outer : Under v B
  each : ∀ i, i < n → Under (gv vs i) B

theorem OwnParts.under {w : World} {base : Nat} {v : Value} {vs : List Value} {ll : List (List Int)} (h : OwnParts w base v vs ll) {B : Nat} (hB : w.heap.size ≤ B) : UnderParts v vs ll.length B :=
  ⟨Under.of h.row hB, fun i hi => Under.of (h.each i hi) hB⟩

/-- three lists of a container in new memory; g is a block of none of them -/
structure Own3 (w : World) (lo B2 B3 B4 : Nat) (vt vc vs : Value) (us ws : List Value) (c : Cn) : Prop where
  ts : w.ownsRow lo 53 3 vt c.ts.length (tyVals c.ts)
  tsU : Under vt B2
  codes : OwnParts w B2 vc us c.codes
  codesU : UnderParts vc us c.codes.length B3
  subs : OwnParts w B3 vs ws c.subs
  subsU : UnderParts vs ws c.subs.length B4
  o1 : lo ≤ B2
  o2 : B2 ≤ B3
  o3 : B3 ≤ B4
  o4 : B4 ≤ w.heap.size

/-- g is a block of none of them -/
structure Not3 (g : Nat) (vt vc vs : Value) (us ws : List Value) (n m : Nat) : Prop where
  ts : vt.ownBlock ≠ some g
  codes : vc.ownBlock ≠ some g
  code : ∀ i, i < n → (gv us i).ownBlock ≠ some g
  subs : vs.ownBlock ≠ some g
  sub : ∀ i, i < m → (gv ws i).ownBlock ≠ some g

theorem not_of_lt {v : Value} {g B : Nat} (h : Under v B) (hg : B ≤ g) : v.ownBlock ≠ some g := fun e => by have := h g e; omega
theorem not_of_ge {w : World} {base e size n : Nat} {v : Value} {xs : List Value} (h : w.ownsRow base e size v n xs) {g : Nat} (hg : g < base) : v.ownBlock ≠ some g := fun e => by have := (h.lt g e).1; omega

theorem Own3.setCell {w : World} {lo B2 B3 B4 : Nat} {vt vc vs : Value} {us ws : List Value} {c : Cn} (h : Own3 w lo B2 B3 B4 vt vc vs us ws c) {a : Addr} (hn : Not3 a.block vt vc vs us ws c.codes.length c.subs.length) (u : Value) : Own3 (w.setCell a u) lo B2 B3 B4 vt vc vs us ws c :=
  ⟨ownsRow_setCell_ne h.ts hn.ts u, h.tsU, h.codes.setCell_ne hn.codes hn.code u, h.codesU, h.subs.setCell_ne hn.subs hn.sub u, h.subsU, h.o1, h.o2, h.o3, by simpa [World.setCell] using h.o4⟩

theorem Own3.below {w w' : World} {lo B2 B3 B4 : Nat} {vt vc vs : Value} {us ws : List Value} {c : Cn} (h : Own3 w lo B2 B3 B4 vt vc vs us ws c) (hb : Below w.heap.size w w') : Own3 w' lo B2 B3 B4 vt vc vs us ws c :=
  ⟨ownsRow_below h.ts hb (Nat.le_refl _), h.tsU, h.codes.below hb (Nat.le_refl _), h.codesU, h.subs.below hb (Nat.le_refl _), h.subsU, h.o1, h.o2, h.o3, Nat.le_trans h.o4 hb.size⟩

/-- what stands behind the literal in Lay: its box at g -/
def LayMid (w1 : World) (g0 : Nat) (vt vc vs vd : Value) (z : Int) (c : Cn) (n : Int) (s8 : Value) (W : World) : Prop :=
  ∃ g a2 c2 a3 c3 us a4 c4 ws B2 B3 B4, s8 = .pointer (some ⟨g, 0, none⟩) ∧ w1.heap.size ≤ g ∧
    W.heap[g]? = some (.cells #[.slice a2 c.ts.length c2, .slice a3 c.codes.length c3, .slice a4 c.subs.length c4, .slice none 0 0, .int .i64 n] 26) ∧ LayS w1 g0 vt vc vs vd z W ∧
    Own3 W w1.heap.size B2 B3 B4 (.slice a2 c.ts.length c2) (.slice a3 c.codes.length c3) (.slice a4 c.subs.length c4) us ws c ∧ Not3 g (.slice a2 c.ts.length c2) (.slice a3 c.codes.length c3) (.slice a4 c.subs.length c4) us ws c.codes.length c.subs.length

theorem own3_set5 {w : World} {lo B2 B3 B4 : Nat} {vt vc vs : Value} {us ws : List Value} {c : Cn} (h : Own3 w lo B2 B3 B4 vt vc vs us ws c) {g : Nat} (hg : g < lo) (x0 x1 x2 x3 x4 : Value) : Own3 (set5 w g x0 x1 x2 x3 x4) lo B2 B3 B4 vt vc vs us ws c :=
  ⟨own_set5 h.ts hg _ _ _ _ _, h.tsU, parts_set5 h.codes (Nat.lt_of_lt_of_le hg h.o1) _ _ _ _ _, h.codesU, parts_set5 h.subs (Nat.lt_of_lt_of_le hg (Nat.le_trans h.o1 h.o2)) _ _ _ _ _, h.subsU, h.o1, h.o2, h.o3, by simpa [World.setCell] using h.o4⟩

theorem Own3.lower {w : World} {lo lo' B2 B3 B4 : Nat} {vt vc vs : Value} {us ws : List Value} {c : Cn} (h : Own3 w lo B2 B3 B4 vt vc vs us ws c) (hl : lo' ≤ lo) : Own3 w lo' B2 B3 B4 vt vc vs us ws c :=
  ⟨h.ts.mono hl, h.tsU, h.codes, h.codesU, h.subs, h.subsU, Nat.le_trans hl h.o1, h.o2, h.o3, h.o4⟩

theorem own3_mk {w2 w3 w4 X2 X3 : World} {lo : Nat} {vt vc vs : Value} {us ws : List Value} {c : Cn} (ho2 : w2.ownsRow lo 53 3 vt c.ts.length (tyVals c.ts)) (hx2 : Below w2.heap.size w2 X2) (hlo : lo ≤ w2.heap.size)
    (ho3 : OwnParts w3 X2.heap.size vc us c.codes) (hb3 : Below X2.heap.size X2 w3) (hx3 : Below w3.heap.size w3 X3) (ho4 : OwnParts w4 X3.heap.size vs ws c.subs) (hb4 : Below X3.heap.size X3 w4) :
    Own3 w4 lo X2.heap.size X3.heap.size w4.heap.size vt vc vs us ws c :=
  have s1 := hx2.size
  have s2 := hb3.size
  have s3 := hx3.size
  have s4 := hb4.size
  have t3 := ownsRow_below (ownsRow_below ho2 hx2 (Nat.le_refl _)) hb3 (Nat.le_refl _)
  ⟨ownsRow_below (ownsRow_below t3 hx3 (Nat.le_refl _)) hb4 (Nat.le_refl _), Under.of ho2 s1, (ho3.below hx3 (Nat.le_refl _)).below hb4 (Nat.le_refl _), ho3.under s3, ho4, ho4.under (Nat.le_refl _), by omega, by omega, by omega, Nat.le_refl _⟩

theorem not_under {v : Value} {vs : List Value} {n B g : Nat} (h : UnderParts v vs n B) (hg : B ≤ g) : v.ownBlock ≠ some g ∧ ∀ i, i < n → (gv vs i).ownBlock ≠ some g :=
  ⟨not_of_lt h.outer hg, fun i hi => not_of_lt (h.each i hi) hg⟩
theorem not_over {w : World} {base : Nat} {v : Value} {vs : List Value} {ll : List (List Int)} (h : OwnParts w base v vs ll) {g : Nat} (hg : g < base) : v.ownBlock ≠ some g ∧ ∀ i, i < ll.length → (gv vs i).ownBlock ≠ some g :=
  ⟨not_of_ge h.row hg, fun i hi => not_of_ge (h.each i hi) hg⟩

theorem set5_heap {w : World} {g : Nat} {y0 y1 y2 y3 y4 : Value} {e : TypeId} (h : w.heap[g]? = some (.cells #[y0, y1, y2, y3, y4] e)) (x0 x1 x2 x3 x4 : Value) :
    (set5 w g x0 x1 x2 x3 x4).heap[g]? = some (.cells #[x0, x1, x2, x3, x4] e) := by
  have k0 := heap_setCell_same w g 0 _ e x0 h
  have k1 := heap_setCell_same _ g 1 _ e x1 k0
  have k2 := heap_setCell_same _ g 2 _ e x2 k1
  have k3 := heap_setCell_same _ g 3 _ e x3 k2
  have k4 := heap_setCell_same _ g 4 _ e x4 k3
  exact k4

theorem own3_set5_ne {w : World} {lo B2 B3 B4 : Nat} {vt vc vs : Value} {us ws : List Value} {c : Cn} (h : Own3 w lo B2 B3 B4 vt vc vs us ws c) {g : Nat} (hn : Not3 g vt vc vs us ws c.codes.length c.subs.length) (x0 x1 x2 x3 x4 : Value) : Own3 (set5 w g x0 x1 x2 x3 x4) lo B2 B3 B4 vt vc vs us ws c :=
  ((((h.setCell (a := ⟨g, 0, none⟩) hn x0).setCell (a := ⟨g, 1, none⟩) hn x1).setCell (a := ⟨g, 2, none⟩) hn x2).setCell (a := ⟨g, 3, none⟩) hn x3).setCell (a := ⟨g, 4, none⟩) hn x4

/-- Lay's answer where it lays: a container in new memory, each list a block of its own -/
def LayPost (w : World) (c : Cn) (l : List Int) (e : Ending) (w' : World) : Prop :=
  ∃ a2 c2 a3 c3 us a4 c4 ws a6 c6 B2 B3 B4, e = .returned (.tuple #[.agg #[.slice a2 c.ts.length c2, .slice a3 c.codes.length c3, .slice a4 c.subs.length c4, .slice a6 (c.data.length + l.length) c6, .int .i64 ((c.data.length : Int) + l.length)], .int .i64 0]) ∧
    Own3 w' w.heap.size B2 B3 B4 (.slice a2 c.ts.length c2) (.slice a3 c.codes.length c3) (.slice a4 c.subs.length c4) us ws c ∧
    w'.ownsRow B4 5 1 (.slice a6 (c.data.length + l.length) c6) (c.data.length + l.length) (byteVals (c.data ++ l)) ∧ Below w.heap.size w w'

set_option maxRecDepth 100000 in
set_option maxHeartbeats 3200000 in
theorem lay_ok {w : World} {v vb : Value} {c : Cn} {l : List Int} (h : RCn w v c) (hm : c.may) (hb : RB w vb l) (hsm : c.small 1000000000) (hn : c.size ≤ (c.data.length : Int) + l.length) (hn' : (c.data.length : Int) + l.length ≤ 65535) :
    Calls Try.prog 8 #[v, vb] w fun e w' => LayPost w c l e w' := by
  obtain ⟨at_, ct, ac, cc, as_, cs, ad, cd, rfl, h1, h2, h3, h4⟩ := h.open
  have hb' := hb
  obtain ⟨ab, cb, rfl⟩ := RC.slice hb
  have hS0 := twinS0 w (.slice at_ c.ts.length ct) (.slice ac c.codes.length cc) (.slice as_ c.subs.length cs) (.slice ad c.data.length cd) c.size
  have hB0 := boxed_below0' w #[.slice at_ c.ts.length ct, .slice ac c.codes.length cc, .slice as_ c.subs.length cs, .slice ad c.data.length cd, .int .i64 c.size] #[.slice none 0 0, .slice none 0 0, .slice none 0 0, .slice none 0 0, .int .i64 0]
  have HC := Lib.hid (check_any (h.below hB0 (Nat.le_refl _)) hm)
  have HS0 := Lib.hid hS0
  have HB0 := Lib.hid hB0
  have hd := hm.data
  have hsz := hm.size
  have HT := Lib.hid (fun W (hW : Below w.heap.size w W) => clone_types (h1.below hW (Nat.le_refl _)) (by have := hm.types; have := hm.codes2; omega))
  have HCC := Lib.hid (fun W (hW : Below w.heap.size w W) => clones_any (h2.below hW (Nat.le_refl _)) (by have := hm.codes2; omega) (fun k hk => by have := hm.code2 k hk; omega))
  have HSS := Lib.hid (fun W (hW : Below w.heap.size w W) => clones_any (h3.below hW (Nat.le_refl _)) (by have := hm.subs; omega) hsm.sub)
  have HD := Lib.hid (fun W (hW : Below w.heap.size w W) => h4.below hW (Nat.le_refl _))
  have HL := Lib.hid (fun W (hW : Below w.heap.size w W) => hb.below hW (Nat.le_refl _))
  clear hS0 hB0 h h1 h2 h3 h4 hb hb'
  go_enter Try.func8, Try.ntmps8
  go_wp2_with fail
  refine HC.out.mono ?_
  rintro e w1 ⟨rfl, hb1⟩
  have hS1 := HS0.out.next hb1
  have k1 := hS1.five
  obtain ⟨q0, q1, q2, q3, q4⟩ := hS1.five
  have HB1 := Lib.hid (HB0.out.trans (hb1.mono (by simp; omega)) : Below w.heap.size w w1)
  go_wp2_with fail
  have hwl : w.heap.size + 2 ≤ w1.heap.size := hS1.2.2.2.2.2.2.2
  have hLd : LayS w1 w.heap.size (.slice at_ c.ts.length ct) (.slice ac c.codes.length cc) (.slice as_ c.subs.length cs) (.slice ad c.data.length cd) c.size w1.drew := ⟨k1.1, k1.2.1, k1.2.2.1, k1.2.2.2.1, k1.2.2.2.2, drew_below _ _⟩
  have HBW := Lib.hid (fun W (hW : LayS w1 w.heap.size (.slice at_ c.ts.length ct) (.slice ac c.codes.length cc) (.slice as_ c.subs.length cs) (.slice ad c.data.length cd) c.size W) => (HB1.out.trans (hW.below.mono (by omega)) : Below w.heap.size w W))
  have HS1 := Lib.hid hS1
  have HLD := Lib.hid hLd
  clear q0 q1 q2 q3 q4 k1 hS1 hLd
  go_cut [8] (fun s8 wx => LayMid w1 w.heap.size (.slice at_ c.ts.length ct) (.slice ac c.codes.length cc) (.slice as_ c.subs.length cs) (.slice ad c.data.length cd) c.size c ((c.data.length : Int) + l.length) s8 wx)
  case first =>
    go_region_held3 (fun w' => w'.cell? ⟨w.heap.size, 0, none⟩ = some (.slice at_ c.ts.length ct) ∧ w'.cell? ⟨w.heap.size, 1, none⟩ = some (.slice ac c.codes.length cc) ∧ w'.cell? ⟨w.heap.size, 2, none⟩ = some (.slice as_ c.subs.length cs) ∧ w'.cell? ⟨w.heap.size, 3, none⟩ = some (.slice ad c.data.length cd) ∧ w'.cell? ⟨w.heap.size, 4, none⟩ = some (.int .i64 c.size) ∧ Below w1.heap.size w1 w')
      (first
        | with_reducible exact HLD.out
        | with_reducible exact LayS.next (by assumption) hb4
        | with_reducible exact LayS.next (by assumption) hb3
        | with_reducible exact LayS.next (by assumption) hb2
        | with_reducible exact LayS.alloc (by assumption) _
        | with_reducible exact LayS.alloc_drew (by assumption) _
        | with_reducible exact LayS.realloc (by assumption) (by omega) (by omega) _
        | with_reducible exact LayS.set5 (by assumption) (by omega) (by omega) _ _ _ _ _
        | fail)
      (first
        | (go_at_call 22; refine (HT.out _ (HBW.out _ (by assumption))).mono ?_; rintro e w2 ⟨a2, c2, rfl, ho2, hb2⟩; obtain ⟨hc2, hf2⟩ := bcell hb2; have hz2 := hb2.size; (try simp at hz2); (try (have hl12 : w1.heap.size < w2.heap.size := by omega)))
        | (go_at_call_of 23 ac; refine (HCC.out _ (HBW.out _ (by assumption))).mono ?_; rintro e w3 ⟨a3, c3, us3, rfl, ho3, hb3⟩; obtain ⟨hc3, hf3⟩ := bcell hb3; have hz3 := hb3.size; (try simp at hz3); (try (have hl13 : w1.heap.size < w3.heap.size := by omega)); (try (have hl23 : w2.heap.size < w3.heap.size := by omega)))
        | (go_at_call_of 23 as_; refine (HSS.out _ (HBW.out _ (by assumption))).mono ?_; rintro e w4 ⟨a4, c4, us4, rfl, ho4, hb4⟩; obtain ⟨hc4, hf4⟩ := bcell hb4; have hz4 := hb4.size; (try simp at hz4)))

    all_goals (go_wp2_with fail; go_meet)
    · have hO := own3_mk ho2 (Below.refl _ _) hb2.size ho3 hb3 (Below.refl _ _) ho4 hb4
      have hO' := hO.below ((Below.refl _ _).alloc (Nat.le_refl _) (.cells #[.slice a2 c.ts.length c2, .slice a3 c.codes.length c3, .slice a4 c.subs.length c4, .slice none 0 0, .int .i64 ((c.data.length : Int) + l.length)] 26))
      obtain ⟨n1, n2⟩ := not_under hO.codesU (g := w4.heap.size) (by omega)
      obtain ⟨n3, n4⟩ := not_under hO.subsU (g := w4.heap.size) (by omega)
      exact ⟨_, a2, c2, a3, c3, us3, a4, c4, us4, _, _, _, rfl, by omega, heap_alloc_new w4 _, by assumption, hO'.lower (by simp), ⟨not_of_lt hO.tsU (by omega), n1, n2, n3, n4⟩⟩
    · have hO := own3_mk ho2 (Below.refl _ _) hb2.size ho3 hb3 ((Below.refl _ _).alloc (Nat.le_refl _) _) ho4 hb4
      have hx : w4.heap[w3.heap.size]? = _ := (hb4.block w3.heap.size (by simp)).trans (heap_alloc_new w3 _)
      obtain ⟨n1, n2⟩ := not_under (ho3.under (Nat.le_refl _)) (g := w3.heap.size) (by omega)
      obtain ⟨n3, n4⟩ := not_over ho4 (g := w3.heap.size) (by simp)
      have hN : Not3 w3.heap.size (.slice a2 c.ts.length c2) (.slice a3 c.codes.length c3) (.slice a4 c.subs.length c4) us3 us4 c.codes.length c.subs.length := ⟨not_of_lt hO.tsU (by omega), n1, n2, n3, n4⟩
      have hO' := own3_set5_ne hO hN (.slice a2 c.ts.length c2) (.slice a3 c.codes.length c3) (.slice a4 c.subs.length c4) (.slice none 0 0) (.int .i64 ((c.data.length : Int) + l.length))
      exact ⟨_, a2, c2, a3, c3, us3, a4, c4, us4, _, _, _, rfl, by omega, set5_heap hx _ _ _ _ _, by assumption, hO'.lower (by simp), hN⟩
    · have hO := own3_mk ho2 ((Below.refl _ _).alloc (Nat.le_refl _) _) hb2.size ho3 hb3 (Below.refl _ _) ho4 hb4
      have hx : w4.heap[w2.heap.size]? = _ := (hb4.block w2.heap.size (by omega)).trans ((hb3.block w2.heap.size (by simp)).trans (heap_alloc_new w2 _))
      obtain ⟨n1, n2⟩ := not_over ho3 (g := w2.heap.size) (by simp)
      obtain ⟨n3, n4⟩ := not_over ho4 (g := w2.heap.size) (by omega)
      have hN : Not3 w2.heap.size (.slice a2 c.ts.length c2) (.slice a3 c.codes.length c3) (.slice a4 c.subs.length c4) us3 us4 c.codes.length c.subs.length := ⟨not_of_lt (Under.of ho2 (Nat.le_refl _)) (by omega), n1, n2, n3, n4⟩
      have hO' := own3_set5_ne hO hN (.slice a2 c.ts.length c2) (.slice a3 c.codes.length c3) (.slice a4 c.subs.length c4) (.slice none 0 0) (.int .i64 ((c.data.length : Int) + l.length))
      exact ⟨_, a2, c2, a3, c3, us3, a4, c4, us4, _, _, _, rfl, by omega, set5_heap hx _ _ _ _ _, by assumption, hO'.lower (by simp), hN⟩
    · have hO := own3_mk ho2 (Below.refl _ _) hb2.size ho3 hb3 (Below.refl _ _) ho4 hb4
      have hx : w4.heap[w1.heap.size]? = _ := (hb4.block w1.heap.size (by omega)).trans ((hb3.block w1.heap.size (by omega)).trans ((hb2.block w1.heap.size (by simp)).trans (heap_alloc_new w1 _)))
      obtain ⟨n1, n2⟩ := not_over ho3 (g := w1.heap.size) (by omega)
      obtain ⟨n3, n4⟩ := not_over ho4 (g := w1.heap.size) (by omega)
      have hN : Not3 w1.heap.size (.slice a2 c.ts.length c2) (.slice a3 c.codes.length c3) (.slice a4 c.subs.length c4) us3 us4 c.codes.length c.subs.length := ⟨not_of_ge ho2 (by simp), n1, n2, n3, n4⟩
      have hO' := own3_set5_ne hO hN (.slice a2 c.ts.length c2) (.slice a3 c.codes.length c3) (.slice a4 c.subs.length c4) (.slice none 0 0) (.int .i64 ((c.data.length : Int) + l.length))
      exact ⟨_, a2, c2, a3, c3, us3, a4, c4, us4, _, _, _, rfl, by omega, set5_heap hx _ _ _ _ _, by assumption, hO'.lower (by simp), hN⟩
  case rest =>
    obtain ⟨g, a2, c2, a3, c3, us, a4, c4, ws, B2, B3, B4, rfl, hg, hbox, hL, hO, hN⟩ := hcut
    obtain ⟨i0, hi, hz, hsz', hby⟩ := info_parts info5
    have hgl : g < wc.heap.size := (Array.getElem?_eq_some_iff.1 hbox).1
    have k3 := hL.2.2.2.1
    have g0 : wc.cell? ⟨g, 0, none⟩ = some (.slice a2 c.ts.length c2) := by rw [cell_of_row wc _ _ _ _ _ hbox]; rfl
    have g1 : wc.cell? ⟨g, 1, none⟩ = some (.slice a3 c.codes.length c3) := by rw [cell_of_row wc _ _ _ _ _ hbox]; rfl
    have g2 : wc.cell? ⟨g, 2, none⟩ = some (.slice a4 c.subs.length c4) := by rw [cell_of_row wc _ _ _ _ _ hbox]; rfl
    have g3 : wc.cell? ⟨g, 3, none⟩ = some (.slice none 0 0) := by rw [cell_of_row wc _ _ _ _ _ hbox]; rfl
    have g4 : wc.cell? ⟨g, 4, none⟩ = some (.int .i64 ((c.data.length : Int) + l.length)) := by rw [cell_of_row wc _ _ _ _ _ hbox]; rfl
    have gf : ∀ j, wc.frozen? ⟨g, j, none⟩ = false := fun j => frozen_of_row wc _ _ _ _ hbox
    obtain ⟨r0, r1, r2, r3, r4, rf⟩ := HS1.out.res
    have hlw0 : w.heap.size + 1 < w1.heap.size := by omega
    rw [← hL.below.cell (p := ⟨w.heap.size + 1, _, none⟩) hlw0] at r0 r1 r2 r3 r4
    have rf' : ∀ j, wc.frozen? ⟨w.heap.size + 1, j, none⟩ = false := fun j => (hL.below.frozen (p := ⟨w.heap.size + 1, j, none⟩) hlw0).trans (rf j)
    clear rf
    have hgn : ¬ w.heap.size = g := by omega
    have hgn' : ¬ g = w.heap.size := by omega
    have hgn1 : ¬ w.heap.size + 1 = g := by omega
    have hgn1' : ¬ g = w.heap.size + 1 := by omega
    have hlw : w.heap.size < wc.heap.size := by omega
    have hlw1 : w.heap.size + 1 < wc.heap.size := by omega
    have hmk : ∀ W, (Instr.makeSlice 24 (.int .i64 0) (.int .i64 ((c.data.length : Int) + l.length))).run Try.prog W = .ok (.slice (some ⟨W.heap.size, 0, none⟩) 0 (c.data.length + l.length)) (W.alloc (.cells (madeCells #[.int .u8 0] ((c.data.length + l.length) * i0.size)) 5)) := by
      intro W
      have := run_make_rowN (P := Try.prog) 24 5 i0 (.int .u8 0) Try.underlying24 hi hz .i64 .i64 0 (c.data.length + l.length) (Nat.zero_le _) (by rw [hby]; omega) (by omega) W
      rwa [show ((c.data.length + l.length : Nat) : Int) = (c.data.length : Int) + l.length by omega] at this
    rw [hsz', Nat.mul_one] at hmk
    have HBX := Lib.hid hbox
    have HLX := Lib.hid hL
    have HOX := Lib.hid hO
    have HNX := Lib.hid hN
    have HDW := Lib.hid (fun W (hW : Below wc.heap.size wc W) => HD.out W (HB1.out.trans (hL.below.trans (hW.mono (by omega)) |>.mono (by omega))))
    have HLW := Lib.hid (fun W (hW : Below wc.heap.size wc W) => HL.out W (HB1.out.trans (hL.below.trans (hW.mono (by omega)) |>.mono (by omega))))
    clear hbox hL hO hN
    go_wp2_with fail
    have hw0 : Below wc.heap.size wc ((wc.alloc (.cells (madeCells #[.int .u8 0] (c.data.length + l.length)) 5)).drew) := ((Below.refl _ _).alloc (Nat.le_refl _) _).drew
    have hown0 : ((wc.alloc (.cells (madeCells #[.int .u8 0] (c.data.length + l.length)) 5)).drew).ownsRow wc.heap.size 5 1 (.slice (some ⟨wc.heap.size, 0, none⟩) 0 (c.data.length + l.length)) 0 [] :=
      World.ownsRow_made wc _ _ (Nat.le_refl _) (by unfold maxLen; omega) (by rw [size_madeCells, Nat.mul_one])
    have HW0 := Lib.hid hw0
    have HOWN0 := Lib.hid hown0
    clear hw0 hown0
    go_region_held3 (fun w' => w'.cell? ⟨w.heap.size, 3, none⟩ = some (.slice ad c.data.length cd))
      (go_keep)
      (first
        | (refine step_append_rc rfl (.tmp 43) (.tmp 45) 24 rfl wc.heap.size 5 i0 (.int .u8 0) 1 1 Try.underlying24 hi hz hsz' hby rfl (by decide) _ 0 [] rfl HOWN0.out _ c.data.length (byteVals c.data) rfl (HDW.out _ HW0.out) (byteVals_one _) (by unfold maxLen; omega) (by omega) (by simp) ?_
           intro v5 w5 ho5 hg5 _
           have hb5 := HW0.out.trans (grownBy_below hg5 (by simp) (fun k hk => by
             have : wc.heap.size = k := by simpa [Value.ownBlock, Act.eval] using hk
             omega))
           obtain ⟨hc5, hf5⟩ := bcell hb5
           have hz5 := hb5.size
           have hu5 := fun k hk => (ho5.lt k hk).1
           rw [Nat.zero_add, List.nil_append] at ho5)
        | (refine step_append_rc rfl (.tmp 46) (.tmp 47) 24 rfl wc.heap.size 5 i0 (.int .u8 0) 1 1 Try.underlying24 hi hz hsz' hby rfl (by decide) _ c.data.length (byteVals c.data) rfl ho5 _ l.length (byteVals l) rfl (HLW.out _ hb5) (byteVals_one _) (by unfold maxLen; omega) (by omega) hz5 ?_
           intro v6 w6 ho6 hg6 _
           have hb6 := hb5.trans (grownBy_below hg6 hz5 hu5)
           obtain ⟨hc6, hf6⟩ := bcell hb6
           obtain ⟨a6, c6, hv6⟩ := ownsRow_slice ho6
           subst hv6))
    go_wp2
    have hs6 := hb6.size
    have q1 : (w6.setCell ⟨g, 3, none⟩ (.slice a6 (c.data.length + l.length) c6)).ownsRow wc.heap.size 5 1 (.slice a6 (c.data.length + l.length) c6) (c.data.length + l.length) (byteVals c.data ++ byteVals l) := ownsRow_setCell_below ho6 (a := ⟨g, 3, none⟩) hgl _
    have q2 := (HOX.out.below hb6).setCell (a := ⟨g, 3, none⟩) HNX.out (.slice a6 (c.data.length + l.length) c6)
    have q3 : Below w.heap.size w (w6.setCell ⟨g, 3, none⟩ (.slice a6 (c.data.length + l.length) c6)) := (HB1.out.trans (((HLX.out.below).mono (by omega)).trans (hb6.mono (by omega)))).setCell (p := ⟨g, 3, none⟩) (by show w.heap.size ≤ g; omega) _
    have q4 := own_set5 q1 (g := w.heap.size + 1) (by omega) (.slice a2 c.ts.length c2) (.slice a3 c.codes.length c3) (.slice a4 c.subs.length c4) (.slice a6 (c.data.length + l.length) c6) (.int .i64 ((c.data.length : Int) + l.length))
    have q5 := own3_set5 q2 (g := w.heap.size + 1) (by omega) (.slice a2 c.ts.length c2) (.slice a3 c.codes.length c3) (.slice a4 c.subs.length c4) (.slice a6 (c.data.length + l.length) c6) (.int .i64 ((c.data.length : Int) + l.length))
    have q6 := below_set5 q3 (g := w.heap.size + 1) (by omega) (.slice a2 c.ts.length c2) (.slice a3 c.codes.length c3) (.slice a4 c.subs.length c4) (.slice a6 (c.data.length + l.length) c6) (.int .i64 ((c.data.length : Int) + l.length))
    have q7 : byteVals c.data ++ byteVals l = byteVals (c.data ++ l) := by simp [byteVals]
    rw [q7] at q4
    exact bodyPost_ret (v := .tuple #[.agg #[.slice a2 c.ts.length c2, .slice a3 c.codes.length c3, .slice a4 c.subs.length c4, .slice a6 (c.data.length + l.length) c6, .int .i64 ((c.data.length : Int) + l.length)], .int .i64 0])
      (by simp [results, Try.results8, go_sem, r0, r1, r2, r3, r4, hc6, hlw1]) rfl
      ⟨a2, c2, a3, c3, us, a4, c4, ws, a6, c6, B2, B3, B4, rfl, q5.lower (by omega), q4.mono HOX.out.o4, q6⟩

end Go.Proofs.Ytalhoahkbmeeeaa
