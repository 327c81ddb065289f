/- Blocks that are kept but for some; a reader in memory; next (32), ask (33), want (31). -/
import Derived.Test.YtalhoahkbmeeeaaSer
import Derived.Laws.Bits
namespace Go.Proofs.Ytalhoahkbmeeeaa
open Go.RowKit

/-- w' is w but for the blocks of S and for new ones -/
structure Kp (S : Nat → Prop) (w w' : World) : Prop where
  os : w'.os = w.os
  tape : w'.tape = w.tape
  output : w'.output = w.output
  size : w.heap.size ≤ w'.heap.size
  block : ∀ b, b < w.heap.size → ¬ S b → w'.heap[b]? = w.heap[b]?

theorem Kp.refl (S : Nat → Prop) (w : World) : Kp S w w := ⟨rfl, rfl, rfl, Nat.le_refl _, fun _ _ _ => rfl⟩
theorem Kp.trans {S : Nat → Prop} {a b c : World} (h : Kp S a b) (k : Kp S b c) : Kp S a c :=
  ⟨k.os.trans h.os, k.tape.trans h.tape, k.output.trans h.output, Nat.le_trans h.size k.size, fun x hx hn => (k.block x (Nat.lt_of_lt_of_le hx h.size) hn).trans (h.block x hx hn)⟩
theorem Kp.imp {S T : Nat → Prop} {w w' : World} (h : Kp S w w') (hi : ∀ b, b < w.heap.size → S b → T b) : Kp T w w' := ⟨h.os, h.tape, h.output, h.size, fun b hb hn => h.block b hb fun hs => hn (hi b hb hs)⟩
theorem Kp.alloc {S : Nat → Prop} {a w : World} (h : Kp S a w) (o : Obj) : Kp S a (w.alloc o) :=
  h.trans ⟨rfl, rfl, rfl, by simp, fun b hb _ => Below.heap_alloc _ _ _ hb⟩
theorem Kp.setCell {S : Nat → Prop} {a w : World} (h : Kp S a w) {p : Addr} (hp : S p.block) (u : Value) : Kp S a (w.setCell p u) :=
  h.trans ⟨rfl, rfl, rfl, by simp [World.setCell], fun b _ hn => Below.heap_setCell _ _ _ _ (fun e => hn (e ▸ hp))⟩
theorem Kp.drewN {S : Nat → Prop} {a w : World} (h : Kp S a w) (n : Nat) : Kp S a (w.drewN n) := ⟨h.os, h.tape, h.output, h.size, h.block⟩
theorem Kp.drew {S : Nat → Prop} {a w : World} (h : Kp S a w) : Kp S a w.drew := ⟨h.os, h.tape, h.output, h.size, h.block⟩
theorem Kp.ofBelow {S : Nat → Prop} {w w' : World} (h : Below w.heap.size w w') : Kp S w w' := ⟨h.os, h.tape, h.output, h.size, fun b hb _ => h.block b hb⟩
theorem Kp.ofGrown {S : Nat → Prop} {w w' : World} {row : Option Nat} (h : w.grownBy w' row) (hr : ∀ b, row = some b → b < w.heap.size → S b) : Kp S w w' :=
  ⟨h.os, h.tape, h.output, h.size, fun b hb hn => h.block b hb fun e => hn (hr b e.symm hb)⟩
theorem Kp.below {S : Nat → Prop} {w w' : World} (h : Kp S w w') {B : Nat} (hB : B ≤ w.heap.size) (hs : ∀ b, b < w.heap.size → S b → B ≤ b) : Below B w w' :=
  ⟨h.os, h.tape, h.output, h.size, fun b hb => h.block b (Nat.lt_of_lt_of_le hb hB) fun e => by have := hs b (Nat.lt_of_lt_of_le hb hB) e; omega⟩
theorem Kp.cell {S : Nat → Prop} {w w' : World} (h : Kp S w w') {a : Addr} {v : Value} (hc : w.cell? a = some v) (hn : ¬ S a.block) : w'.cell? a = some v := by
  rw [← hc]
  exact World.cell?_of_block (h.block _ (World.block_lt_of_cell? w _ hc) hn)
theorem Kp.frozen {S : Nat → Prop} {w w' : World} (h : Kp S w w') {a : Addr} (hl : a.block < w.heap.size) (hn : ¬ S a.block) : w'.frozen? a = w.frozen? a := by
  unfold World.frozen?
  rw [h.block _ hl hn]
theorem Kp.rc {S : Nat → Prop} {w w' : World} (h : Kp S w w') {b off m cap n size : Nat} {cs : List Value} (hr : RC w (.slice (some ⟨b, off, none⟩) m cap) n size cs) (hn : ¬ S b) :
    RC w' (.slice (some ⟨b, off, none⟩) m cap) n size cs := by
  obtain ⟨hl, a, c, hv, hc, h0 | ⟨b', off', ha, hj⟩⟩ := hr
  · exact ⟨hl, a, c, hv, hc, .inl h0⟩
  · refine ⟨hl, a, c, hv, hc, .inr ⟨b', off', ha, fun j hj' => h.cell (hj j hj') ?_⟩⟩
    injection hv with e1
    rw [← e1] at ha
    injection ha with e2
    injection e2 with e3
    subst e3
    exact hn
theorem Kp.owns {S : Nat → Prop} {w w' : World} (h : Kp S w w') {base e size n : Nat} {v : Value} {xs : List Value} (ho : w.ownsRow base e size v n xs) (hn : ∀ b, v.ownBlock = some b → ¬ S b) : w'.ownsRow base e size v n xs := by
  refine ⟨ho.1, ?_⟩
  rcases ho.2 with h0 | ⟨g, cap, cur, rfl, hbg, hg, rest⟩
  · exact .inl h0
  · refine .inr ⟨g, cap, cur, rfl, hbg, ?_, rest⟩
    rw [h.block g (Array.getElem?_eq_some_iff.1 hg).1 (hn g rfl)]
    exact hg

/-- an append to a block that is newer than a -/
theorem Kp.own {S : Nat → Prop} {a w w' : World} {row : Option Nat} (h : Kp S a w) (hg : w.grownBy w' row) (hr : ∀ b, row = some b → a.heap.size ≤ b) : Kp S a w' :=
  ⟨hg.os.trans h.os, hg.tape.trans h.tape, hg.output.trans h.output, Nat.le_trans h.size hg.size, fun b hb hn => (hg.block b (Nat.lt_of_lt_of_le hb h.size) (fun e => by have := hr b e.symm; omega)).trans (h.block b hb hn)⟩

/-- a reader at g: its bytes, its place -/
structure RD (W : World) (g : Nat) (v : Value) (p : Int) : Prop where
  c0 : W.cell? ⟨g, 0, none⟩ = some v
  c1 : W.cell? ⟨g, 1, none⟩ = some (.int .i64 p)
  fz : W.frozen? ⟨g, 1, none⟩ = false

theorem RD.lt {W : World} {g : Nat} {v : Value} {p : Int} (h : RD W g v p) : g < W.heap.size := World.block_lt_of_cell? W _ h.c0
theorem RD.kp {S : Nat → Prop} {w w' : World} {g : Nat} {v : Value} {p : Int} (h : RD w g v p) (hk : Kp S w w') (hn : ¬ S g) : RD w' g v p :=
  ⟨hk.cell h.c0 hn, hk.cell h.c1 hn, by rw [hk.frozen h.lt hn]; exact h.fz⟩
theorem RD.set {w : World} {g : Nat} {v : Value} {p : Int} (h : RD w g v p) (q : Int) : RD (w.setCell ⟨g, 1, none⟩ (.int .i64 q)) g v q :=
  ⟨by rw [World.cell?_setCell_other _ _ _ _ (by simp)]; exact h.c0, World.cell?_setCell_same _ _ _ h.c1, by rw [World.frozen?_setCell]; exact h.fz⟩
theorem RD.drewN {w : World} {g : Nat} {v : Value} {p : Int} (h : RD w g v p) (n : Nat) : RD (w.drewN n) g v p := ⟨h.c0, h.c1, h.fz⟩

theorem RD.alloc {w : World} {g : Nat} {v : Value} {p : Int} (h : RD w g v p) (o : Obj) : RD (w.alloc o) g v p := h.kp ((Kp.refl (fun _ => False) w).alloc o) (fun h => h)
/-- an append to another block -/
theorem RD.own {w w' : World} {g : Nat} {v : Value} {p : Int} {row : Option Nat} (h : RD w g v p) (hg : w.grownBy w' row) (hr : row ≠ some g) : RD w' g v p :=
  h.kp (Kp.ofGrown (S := fun b => row = some b) hg (fun _ hb _ => hb)) hr
/-- a number out of bytes, the highest first -/
def num (l : List Int) : Int := l.foldl (fun a b => a * 256 + b) 0
theorem num_snoc (l : List Int) (b : Int) : num (l ++ [b]) = num l * 256 + b := by simp [num]
/-- bytes are bytes -/
def Byt (l : List Int) : Prop := ∀ k, k < l.length → 0 ≤ gb l k ∧ gb l k < 256

theorem num_bd (l : List Int) (h : ∀ x ∈ l, 0 ≤ x ∧ x < 256) : 0 ≤ num l ∧ (l.length ≤ 3 → num l < 16777216) := by
  match l, h with
  | [], _ => simp [num]
  | [a], h => have := h a (by simp); simp [num]; omega
  | [a, b], h => have := h a (by simp); have := h b (by simp); simp [num]; omega
  | [a, b, c], h => have := h a (by simp); have := h b (by simp); have := h c (by simp); simp [num]; omega
  | a :: b :: c :: d :: r, h =>
    refine ⟨?_, fun hl => by simp at hl⟩
    unfold num
    have : ∀ (l : List Int) (x : Int), 0 ≤ x → (∀ y ∈ l, 0 ≤ y ∧ y < 256) → 0 ≤ l.foldl (fun a b => a * 256 + b) x := by
      intro l
      induction l with
      | nil => intro x hx _; exact hx
      | cons y r ih => intro x hx hy; exact ih _ (by have := hy y (by simp); show 0 ≤ x * 256 + y; omega) (fun z hz => hy z (by simp [hz]))
    exact this _ 0 (by omega) h

theorem or_low (x y : Int) (h0 : 0 ≤ x) (h1 : x ≤ 16777216) (h2 : 0 ≤ y) (h3 : y < 256) : bits .or .i64 (x * 256) y = x * 256 + y := by
  obtain ⟨a, rfl⟩ := Int.eq_ofNat_of_zero_le h0
  obtain ⟨b, rfl⟩ := Int.eq_ofNat_of_zero_le h2
  have hb : b < 2 ^ 8 := by omega
  have e := Nat.two_pow_add_eq_or_of_lt hb a
  have h1' : (BitVec.ofInt 64 ((a : Int) * 256)).toNat = a * 256 := by
    rw [show (a : Int) * 256 = ((a * 256 : Nat) : Int) by simp, BitVec.ofInt_natCast, BitVec.toNat_ofNat]; exact Nat.mod_eq_of_lt (by omega)
  have h2' : (BitVec.ofInt 64 (b : Int)).toNat = b := by
    rw [BitVec.ofInt_natCast, BitVec.toNat_ofNat]; exact Nat.mod_eq_of_lt (by omega)
  show IntKind.i64.wrap ((BitVec.ofInt 64 ((a : Int) * 256) ||| BitVec.ofInt 64 (b : Int)).toNat : Int) = _
  rw [BitVec.toNat_or, h1', h2', show a * 256 ||| b = 2 ^ 8 * a + b by rw [e, Nat.mul_comm]]
  rw [IntWalk.i64_in _ (by omega)]
  omega

/-- where the bytes of a slice lie, empty or not -/
theorem RB.at {w : World} {a : Option Addr} {n c : Nat} {l : List Int} (h : RB w (.slice a n c) l) :
    n = l.length ∧ ∃ b off, (∀ k : Int, 0 ≤ k → k < l.length → ∀ W, (Instr.indexAt 24 (.slice a n c) (.int .i64 k)).run Try.prog W = .ok (.pointer (some ⟨b, off + k.toNat, none⟩)) W) ∧
      (∀ k, k < l.length → w.cell? ⟨b, off + k, none⟩ = some (.int .u8 (gb l k))) := by
  rcases h.cases with ⟨rfl, a', c', he⟩ | ⟨h0, b, off, c', he, -, hc⟩
  · injection he with e1 e2 e3
    exact ⟨e2, 0, 0, fun k h h' => by simp at h'; omega, fun k h => by simp at h⟩
  · injection he with e1 e2 e3
    subst e1 e2
    refine ⟨rfl, b, off, fun k hk0 hk W => ?_, hc⟩
    obtain ⟨j, rfl⟩ := Int.eq_ofNat_of_zero_le hk0
    have hk' : j < l.length := by omega
    obtain ⟨i0, hi, hz, hsz, hby⟩ := info_parts info5
    simp [Instr.indexAt, asIntOf, run_underlying Try.underlying24, sizeOf, typeInfo, hi, hsz, hk', addr_add]

theorem num_snoc_take {l : List Int} {k : Nat} (h : k < l.length) : num (l.take (k + 1)) = num (l.take k) * 256 + l[k] := by
  rw [List.take_succ_eq_append_getElem h, num_snoc]

set_option maxHeartbeats 1600000 in
/-- next of n bytes that are there -/
theorem next_ok {w0 w : World} {g : Nat} {v : Value} {l : List Int} {p n : Nat} (h0 : RB w0 v l) (hby : ∀ x ∈ (l.drop p).take n, 0 ≤ x ∧ x < 256) (hb : Below w0.heap.size w0 w) (hg : w0.heap.size ≤ g) (hr : RD w g v (p : Int)) (hn : n ≤ 4) (hp : p + n ≤ l.length) (hlen : l.length ≤ 1000000000) :
    Calls Try.prog 32 #[.pointer (some ⟨g, 0, none⟩), .int .i64 (n : Int)] w fun e w' => e = .returned (.tuple #[.int .i64 (num ((l.drop p).take n)), .int .i64 (p : Int)]) ∧ RD w' g v ((p + n : Nat) : Int) ∧ Kp (· = g) w w' := by
  obtain ⟨a, c, rfl⟩ := RC.slice h0
  obtain ⟨-, bb, ob, hix, hbc⟩ := h0.at
  have hbl : ∀ W, Below w0.heap.size w0 W → ∀ k, k < l.length → W.cell? ⟨bb, ob + k, none⟩ = some (.int .u8 (gb l k)) := fun W hW k hk => cell_below hW (Nat.le_refl _) (hbc k hk)
  have HBL := Lib.hid hbl
  have HIX := Lib.hid hix
  have HB := Lib.hid hb
  have HBY := Lib.hid hby
  obtain ⟨c0, c1, fz⟩ := hr
  have HR := Lib.hid (RD.mk c0 c1 fz)
  have HG := Lib.hid hg
  clear hbl hix hb hby hbc h0
  go_enter Try.func32, Try.ntmps32
  go_wp2_with fail
  go_loopw [4, 27] (fun r i wr => ∃ k q : Nat, k ≤ n ∧ q = p + k ∧ i = .int .i64 k ∧ r = .int .i64 (num ((l.drop p).take k)) ∧ RD wr g (.slice a l.length c) (q : Int) ∧ Kp (· = g) w wr) (fun _ i _ => n - (intOf i).toNat)
  case atStart => exact ⟨0, p, by omega, rfl, rfl, rfl, HR.out, Kp.refl _ _⟩
  case round =>
    clear c0 c1 fz
    obtain ⟨k, q, hk, hq, rfl, rfl, hrd, hkp⟩ := hrel
    have HQ := Lib.hid hq
    obtain ⟨c0, c1, fz⟩ := hrd
    have HRD := Lib.hid (RD.mk c0 c1 fz)
    have HKP := Lib.hid hkp
    by_cases hlt : k < n
    · have hdl : k < (l.drop p).length := by rw [List.length_drop]; omega
      have hnb := num_bd ((l.drop p).take k) (fun x hx => HBY.out x (by rw [show (l.drop p).take k = ((l.drop p).take n).take k by rw [List.take_take, Nat.min_eq_left hk]] at hx; exact List.mem_of_mem_take hx))
      have hb1 := hnb.2 (by rw [List.length_take]; omega)
      have hb0 := hnb.1
      have hbe : (l.drop p)[k] = gb l q := by rw [gb_eq (by omega), List.getElem_drop]; congr 1; omega
      have HS := Lib.hid (show num ((l.drop p).take (k + 1)) = num ((l.drop p).take k) * 256 + gb l q by rw [num_snoc_take hdl, hbe])
      have hx := HBY.out (gb l q) (by rw [← hbe, ← List.getElem_take (j := n) (h := by rw [List.length_take]; omega)]; exact List.getElem_mem _)
      have hx0 := hx.1
      have hx1 := hx.2
      have hql : (q : Int) < l.length := by omega
      have hor := or_low (num ((l.drop p).take k)) (gb l q) hb0 (by omega) hx0 hx1
      have hcell := HBL.out wr (HB.out.trans (hkp.below HB.out.size (fun b _ e => by have := HG.out; omega))) q (by omega)
      have hix := HIX.out (q : Int) (by omega) (by omega)
      rw [Int.toNat_natCast] at hix
      generalize num ((l.drop p).take k) = N at *
      clear hnb hx hkp hbe hdl hq
      go_wp2_with fail
      go_quiet (fail)
      go_wp2_with fail
      have hq1 : (q : Int) + 1 = ((q + 1 : Nat) : Int) := by omega
      refine ⟨⟨k + 1, q + 1, by omega, by have := HQ.out; omega, by go_num, by rw [HS.out], ?_, ?_⟩, by simp [intOf]; omega⟩
      · rw [hq1]
        exact (HRD.out.drewN nq).set _
      · exact (HKP.out.drewN nq).setCell rfl _
    · have hkn : k = n := by omega
      subst hkn
      subst hq
      clear hkp
      go_wp2_with fail
      go_ret2
      exact ⟨rfl, HRD.out, HKP.out⟩

theorem ask_ok (g : Option Addr) (e at_ : Int) (w : World) : Calls Try.prog 33 #[.pointer g, .bool true, .int .i64 e, .int .i64 at_] w fun e w' => e = .returned (.tuple #[]) ∧ w' = w := by
  go_enter Try.func33, Try.ntmps33
  go_wp2
  go_end0
  exact ⟨rfl, rfl⟩

/-- want of the byte that is there -/
theorem want_ok {w0 w : World} {g : Nat} {v : Value} {l : List Int} {p : Nat} {x : Int} {rest : List Int} (e : Int) (h0 : RB w0 v l) (hx0 : 0 ≤ x) (hx1 : x < 256) (hb : Below w0.heap.size w0 w) (hg : w0.heap.size ≤ g) (hr : RD w g v (p : Int)) (hd : l.drop p = x :: rest) (hlen : l.length ≤ 1000000000) :
    Calls Try.prog 31 #[.pointer (some ⟨g, 0, none⟩), .int .i64 x, .int .i64 e] w fun e w' => e = .returned (.tuple #[]) ∧ RD w' g v ((p + 1 : Nat) : Int) ∧ Kp (· = g) w w' := by
  have hp : p + 1 ≤ l.length := by
    have : (l.drop p).length = rest.length + 1 := by rw [hd]; rfl
    rw [List.length_drop] at this; omega
  have HN := Lib.hid (next_ok (n := 1) h0 (by rw [hd]; intro y hy; simp at hy; omega) hb hg hr (by omega) hp hlen)
  rw [hd] at HN
  clear hd h0 hb hr
  go_enter Try.func31, Try.ntmps31
  go_wp2_with fail
  refine HN.out.mono ?_
  rintro e1 w1 ⟨rfl, hr1, hk1⟩
  have HR := Lib.hid hr1
  have HK := Lib.hid hk1
  clear hr1 hk1
  have hx : num (List.take 1 (x :: rest)) = x := by simp [num]
  rw [hx]
  go_wp2_with (go_at_call 33; refine (ask_ok _ _ _ _).mono ?_; rintro e2 w2 ⟨rfl, rfl⟩)
  go_end0
  exact ⟨rfl, HR.out, HK.out⟩

end Go.Proofs.Ytalhoahkbmeeeaa
