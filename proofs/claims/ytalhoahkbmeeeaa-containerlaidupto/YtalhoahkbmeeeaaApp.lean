/- append of what memory holds to a slice of the call's own: one law, whether the source is nil, empty or not. -/
import Derived.Test.YtalhoahkbmeeeaaD
import Derived.Deep.RegionHeld3
import Derived.Deep.AppendLies
import Derived.Deep.Onto
namespace Go.Proofs.Ytalhoahkbmeeeaa
open Go.RowKit

theorem addr_add (b off j : Nat) : (⟨b, off, none⟩ : Addr).add j = ⟨b, off + j, none⟩ := by
  unfold Addr.add
  split
  · simp_all
  · rfl

theorem grownBy_refl (w : World) (row : Option Nat) : w.grownBy w row := ⟨rfl, rfl, rfl, Nat.le_refl _, fun _ _ _ => rfl⟩

/-- a slice of the call's own reads as its cells -/
theorem RC.ofOwn {w : World} {base e size n : Nat} {v : Value} {xs : List Value} (h : w.ownsRow base e size v n xs) : RC w v n size xs := by
  refine ⟨h.1, ?_⟩
  rcases h.2 with ⟨rfl, rfl⟩ | ⟨g, cap, cur, rfl, hb, hg, hnc, hcm, hcs, htake⟩
  · exact ⟨none, 0, rfl, Nat.le_refl _, .inl (List.eq_nil_of_length_eq_zero (by simpa using h.1))⟩
  · refine ⟨some ⟨g, 0, none⟩, cap, rfl, hnc, .inr ⟨g, 0, rfl, fun j hj => ?_⟩⟩
    have hj' : j < n * size := by rw [← h.1]; exact hj
    have := h.cellAt j hj'
    rw [Nat.zero_add, this, List.getElem?_eq_getElem hj]

section
variable {P : Program}
theorem run_append_rc (w : World) (base : Nat) (t ty e : TypeId) (i : TypeInfo) (z : Value) (size bytes : Nat) (ht : P.underlying t = some (.slice e)) (hi : P.info? e = some i) (hz : i.zero = some z)
    (hsize : i.size = size) (hby : i.bytes = bytes) (hzs : z.cells.size = size) (hsz : 0 < size)
    (v : Value) (n : Nat) (xs : List Value) (hown : w.ownsRow base e size v n xs)
    (x : Value) (m : Nat) (news : List Value) (hx : RC w x m size news) (h1 : ∀ u ∈ news, u.oneCell' = true)
    (h63 : n + m ≤ maxLen) (hbytes : (n + m) * bytes ≤ 140737488355328) (hbase : base ≤ w.heap.size) :
    ∃ v' w', (Builtin.append_ #[t, t] ty #[v, x]).run P w = .ok v' w' ∧ w'.ownsRow base e size v' (n + m) (xs ++ news) ∧ w.grownBy w' v.ownBlock ∧ (v'.ownBlock = v.ownBlock ∨ v'.ownBlock = some w.heap.size) := by
  obtain ⟨hl, a, c, rfl, hc, hcs⟩ := hx
  rcases hcs with h0 | ⟨b, off, rfl, hj⟩
  · subst h0
    have hm : m = 0 := by
      have : m * size = 0 := by simpa using hl.symm
      rcases Nat.mul_eq_zero.1 this with h | h <;> omega
    subst hm
    refine ⟨v, w, ?_, by simpa using hown, grownBy_refl _ _, .inl rfl⟩
    rcases hown.2 with ⟨rfl, rfl⟩ | ⟨g, cap, cur, rfl, hbg, hg, hnc, hcm, hcs, htake⟩
    · cases a <;> simp [Builtin.append_, run_underlying ht, sizeOf, typeInfo, hi, Builtin.lenOf, Builtin.firstCells, loadCells, loadCellsFrom]
    · cases a <;> simp [Builtin.append_, run_underlying ht, sizeOf, typeInfo, hi, Builtin.lenOf, Builtin.firstCells, loadCells, loadCellsFrom, hnc, storeCells]
  · obtain ⟨v', w', hr, ho, hg, -, hat⟩ := run_append_own_at (P := P) w base t ty e i z size bytes ht hi hz hsize hby hzs hsz v n xs hown ⟨b, off, none⟩ m c news hl
      (fun j u hu => by
        obtain ⟨hlt, rfl⟩ := List.getElem?_eq_some_iff.1 hu
        rw [addr_add]
        exact hj j hlt) h1 h63 hbytes hbase
    exact ⟨v', w', hr, ho, hg, hat⟩

theorem wpList_append_rc {w : World} {ops : Array Oper} {rest : List Oper} {o : Oper} {a : Act} {Q : Exit → Act → World → Prop} (hgd : o.guard = none) (s x : Operand) (t : TypeId)
    (ho : o.op = .call { callee := .builtin .append, args := #[s, x], argTypes := #[t, t] })
    (base : Nat) (e : TypeId) (i : TypeInfo) (z : Value) (size bytes : Nat) (ht : P.underlying t = some (.slice e)) (hi : P.info? e = some i) (hz : i.zero = some z)
    (hsize : i.size = size) (hby : i.bytes = bytes) (hzs : z.cells.size = size) (hsz : 0 < size)
    (v : Value) (n : Nat) (xs : List Value) (hs : a.eval s = v) (hown : w.ownsRow base e size v n xs)
    (xv : Value) (m : Nat) (news : List Value) (hx : a.eval x = xv) (hxr : RC w xv m size news) (h1 : ∀ u ∈ news, u.oneCell' = true)
    (h63 : n + m ≤ maxLen) (hbytes : (n + m) * bytes ≤ 140737488355328) (hbase : base ≤ w.heap.size)
    (h : ∀ v' w', w'.ownsRow base e size v' (n + m) (xs ++ news) → w.grownBy w' v.ownBlock → (v'.ownBlock = v.ownBlock ∨ v'.ownBlock = some w.heap.size) → wpList P ops Q rest (a.put o.dst v') w') : wpList P ops Q (o :: rest) a w := by
  refine wpList_plain hgd fun K hK => ?_
  obtain ⟨v', w', hr, h2, h3, h4⟩ := run_append_rc (P := P) w base t o.type e i z size bytes ht hi hz hsize hby hzs hsz v n xs hown xv m news hxr h1 h63 hbytes hbase
  unfold Oper.wp execOp
  simp only [ho, resolve, invoke, builtin, Sem.run_bind, Sem.run_pure, Result.andThen_ok, List.map_toArray, List.map_cons, List.map_nil, hs, hx, hr]
  exact hK _ _ (h v' w' h2 h3 h4)

theorem step_append_rc {w : World} {ops : Array Oper} {o : Oper} {a : Act} {K : Act → World → Prop} {Q : Exit → Act → World → Prop} {E : Prop} (hgd : o.guard = none) (s x : Operand) (t : TypeId)
    (ho : o.op = .call { callee := .builtin .append, args := #[s, x], argTypes := #[t, t] })
    (base : Nat) (e : TypeId) (i : TypeInfo) (z : Value) (size bytes : Nat) (ht : P.underlying t = some (.slice e)) (hi : P.info? e = some i) (hz : i.zero = some z)
    (hsize : i.size = size) (hby : i.bytes = bytes) (hzs : z.cells.size = size) (hsz : 0 < size)
    (v : Value) (n : Nat) (xs : List Value) (hs : a.eval s = v) (hown : w.ownsRow base e size v n xs)
    (xv : Value) (m : Nat) (news : List Value) (hx : a.eval x = xv) (hxr : RC w xv m size news) (h1 : ∀ u ∈ news, u.oneCell' = true)
    (h63 : n + m ≤ maxLen) (hbytes : (n + m) * bytes ≤ 140737488355328) (hbase : base ≤ w.heap.size)
    (h : ∀ v' w', w'.ownsRow base e size v' (n + m) (xs ++ news) → w.grownBy w' v.ownBlock → (v'.ownBlock = v.ownBlock ∨ v'.ownBlock = some w.heap.size) → K (a.put o.dst v') w') :
    if Region.wanted o (yielded ops a.tmps) = true then Oper.wp P o a w K Q else E := by
  have hw : Region.wanted o (yielded ops a.tmps) = true := by simp [Region.wanted, hgd]
  rw [if_pos hw]
  obtain ⟨v', w', hr, h2, h3, h4⟩ := run_append_rc (P := P) w base t o.type e i z size bytes ht hi hz hsize hby hzs hsz v n xs hown xv m news hxr h1 h63 hbytes hbase
  unfold Oper.wp execOp
  simp only [ho, resolve, invoke, builtin, Sem.run_bind, Sem.run_pure, Result.andThen_ok, List.map_toArray, List.map_cons, List.map_nil, hs, hx, hr]
  exact h v' w' h2 h3 h4
end

theorem grownBy_below {w w' : World} {row : Option Nat} (h : w.grownBy w' row) {B : Nat} (hB : B ≤ w.heap.size) (hr : ∀ k, row = some k → B ≤ k) : Below B w w' :=
  (Below.refl B w).grown h hB hr

theorem byteVals_one (l : List Int) : ∀ u ∈ byteVals l, u.oneCell' = true := by
  intro u hu
  obtain ⟨x, -, rfl⟩ := List.mem_map.1 hu
  rfl

theorem info5 : (Try.prog.info? 5).map (fun i => (i.zero, i.size, i.bytes)) = some (some (.int .u8 0), 1, 1) := by kernel_rfl
theorem info24 : (Try.prog.info? 24).map (fun i => (i.zero, i.size, i.bytes)) = some (some (.slice none 0 0), 1, 24) := by kernel_rfl
theorem info53 : (Try.prog.info? 53).map (fun i => (i.zero, i.size, i.bytes)) = some (some (.agg #[.int .i64 0, .int .i64 0, .int .i64 0]), 3, 24) := by kernel_rfl

theorem ownsRow_slice {w : World} {base e size n : Nat} {v : Value} {xs : List Value} (h : w.ownsRow base e size v n xs) : ∃ a c, v = .slice a n c := by
  rcases h.2 with ⟨rfl, rfl⟩ | ⟨g, cap, cur, rfl, _⟩
  · exact ⟨_, _, rfl⟩
  · exact ⟨_, _, rfl⟩

/-- own: new memory that reads the same. -/
theorem own_any {w : World} {v : Value} {l : List Int} (h : RB w v l) (hmax : l.length ≤ 1000000000) :
    Calls Try.prog 10 #[v] w fun e w' => ∃ a c, e = .returned (.slice a l.length c) ∧ w'.ownsRow w.heap.size 5 1 (.slice a l.length c) l.length (byteVals l) ∧ Below w.heap.size w w' := by
  obtain ⟨i0, hi, hz, hsz, hby⟩ := info_parts info5
  go_enter Try.func10, Try.ntmps10
  go_wp2_with (refine wpList_append_rc rfl _ _ 24 rfl w.heap.size 5 i0 (.int .u8 0) 1 1 Try.underlying24 hi hz hsz hby rfl (by decide) _ 0 [] rfl (World.ownsRow_nil _ _ _ _) v l.length (byteVals l) rfl h (byteVals_one l) (by unfold maxLen; omega) (by omega) (Nat.le_refl _) ?_; intro v' w1 hown hg _)
  go_ret
  rw [Nat.zero_add, List.nil_append] at hown
  obtain ⟨a, c, hv⟩ := ownsRow_slice hown
  rw [hv] at hown
  exact ⟨a, c, by rw [← hv]; rfl, hown, grownBy_below hg (Nat.le_refl _) (fun k hk => by cases hk)⟩

theorem ownsRow_below {w w' : World} {base e size n : Nat} {v : Value} {xs : List Value} {B : Nat} (h : w.ownsRow base e size v n xs) (hb : Below B w w') (hB : w.heap.size ≤ B) : w'.ownsRow base e size v n xs := by
  refine ⟨h.1, ?_⟩
  rcases h.2 with hn | ⟨g, cap, cur, rfl, hbg, hg, rest⟩
  · exact .inl hn
  · refine .inr ⟨g, cap, cur, rfl, hbg, ?_, rest⟩
    have hlt : g < w.heap.size := (Array.getElem?_eq_some_iff.1 hg).1
    rw [hb.block g (by omega)]
    exact hg

/-- two values do not own one block -/
def apartV (x y : Value) : Prop := ∀ b, x.ownBlock = some b → y.ownBlock ≠ some b

theorem apartV_lt {x y : Value} {B : Nat} (hx : ∀ b, x.ownBlock = some b → b < B) (hy : ∀ b, y.ownBlock = some b → B ≤ b) : apartV x y := fun b h h' => by
  have := hx b h
  have := hy b h'
  omega
theorem apartV_gt {x y : Value} {B : Nat} (hx : ∀ b, x.ownBlock = some b → B ≤ b) (hy : ∀ b, y.ownBlock = some b → b < B) : apartV x y := fun b h h' => by
  have := hx b h
  have := hy b h'
  omega

/-- a list of byte lists in new memory: each list a block of its own -/
structure OwnParts (w : World) (base : Nat) (v : Value) (vs : List Value) (ll : List (List Int)) : Prop where
  row : w.ownsRow base 24 1 v ll.length vs
  each : ∀ i, i < ll.length → w.ownsRow base 5 1 (gv vs i) (gp ll i).length (byteVals (gp ll i))
  part : ∀ i j, i < j → j < ll.length → apartV (gv vs i) (gv vs j)
  outer : ∀ i, i < ll.length → apartV v (gv vs i)

theorem OwnParts.nil (w : World) (base : Nat) : OwnParts w base (.slice none 0 0) [] [] :=
  ⟨World.ownsRow_nil _ _ _ _, fun i h => by simp at h, fun i j _ h => by simp at h, fun i h => by simp at h⟩

theorem OwnParts.below {w w' : World} {base : Nat} {v : Value} {vs : List Value} {ll : List (List Int)} {B : Nat} (h : OwnParts w base v vs ll) (hb : Below B w w') (hB : w.heap.size ≤ B) : OwnParts w' base v vs ll :=
  ⟨ownsRow_below h.row hb hB, fun i hi => ownsRow_below (h.each i hi) hb hB, h.part, h.outer⟩

theorem OwnParts.vsLen {w : World} {base : Nat} {v : Value} {vs : List Value} {ll : List (List Int)} (h : OwnParts w base v vs ll) : vs.length = ll.length := by
  have := h.row.1
  omega

theorem OwnParts.rp {w : World} {base : Nat} {v : Value} {vs : List Value} {ll : List (List Int)} (h : OwnParts w base v vs ll) : RP w v ll :=
  ⟨vs, RC.ofOwn h.row, fun i hi => RC.ofOwn (h.each i hi)⟩

theorem gv_append_left {vs us : List Value} {i : Nat} (h : i < vs.length) : gv (vs ++ us) i = gv vs i := by
  rw [gv_eq h, gv_eq (by simp; omega), List.getElem_append_left h]
theorem gv_append_last {vs : List Value} {x : Value} {i : Nat} (h : i = vs.length) : gv (vs ++ [x]) i = x := by
  subst h
  rw [gv_eq (by simp)]
  simp
theorem gp_append_left {vs us : List (List Int)} {i : Nat} (h : i < vs.length) : gp (vs ++ us) i = gp vs i := by
  rw [gp_eq h, gp_eq (by simp; omega), List.getElem_append_left h]
theorem gp_append_last {vs : List (List Int)} {x : List Int} {i : Nat} (h : i = vs.length) : gp (vs ++ [x]) i = x := by
  subst h
  rw [gp_eq (by simp)]
  simp

/-- what holds of a row but for one block is kept where that block is another's -/
theorem ownsRow_grown {w w' : World} {base e size n : Nat} {v : Value} {xs : List Value} {row : Option Nat} (h : w.ownsRow base e size v n xs) (hg : w.grownBy w' row) (ha : ∀ b, row = some b → v.ownBlock ≠ some b) : w'.ownsRow base e size v n xs := by
  refine h.kept hg ?_
  cases hv : v.ownBlock with
  | none => exact .inl rfl
  | some b => exact .inr fun e => ha b e.symm hv

/-- a part more -/
theorem OwnParts.snoc {wr w1 w3 : World} {base : Nat} {v v1 v' : Value} {vs : List Value} {ll : List (List Int)} {x : List Int} (o : Obj)
    (h : OwnParts wr base v vs ll) (hbase : base ≤ wr.heap.size) (hb : Below wr.heap.size wr w1) (h1 : w1.ownsRow wr.heap.size 5 1 v1 x.length (byteVals x))
    (h3 : w3.ownsRow base 24 1 v' (ll.length + 1) (vs ++ [v1])) (hg : (w1.alloc o).grownBy w3 v.ownBlock) (hat : v'.ownBlock = v.ownBlock ∨ v'.ownBlock = some (w1.alloc o).heap.size) :
    OwnParts w3 base v' (vs ++ [v1]) (ll ++ [x]) := by
  have hvl := h.vsLen
  have hout : ∀ b, v.ownBlock = some b → b < wr.heap.size := fun b hb => (h.row.lt b hb).2
  have hin : ∀ i, i < ll.length → ∀ b, (gv vs i).ownBlock = some b → b < wr.heap.size := fun i hi b hb => ((h.each i hi).lt b hb).2
  have hnew : ∀ b, v1.ownBlock = some b → wr.heap.size ≤ b ∧ b < w1.heap.size := fun b hb => h1.lt b hb
  have hsz := hb.size
  have hv' : ∀ b, v'.ownBlock = some b → (v.ownBlock = some b) ∨ b = w1.heap.size + 1 := by
    intro b hb'
    rcases hat with e | e
    · exact .inl (e ▸ hb')
    · right
      rw [e] at hb'
      simp at hb'
      exact hb'.symm
  have hrow : ∀ {vv : Value} {n : Nat} {xs : List Value} {e : Nat}, w1.ownsRow base e 1 vv n xs → apartV v vv → w3.ownsRow base e 1 vv n xs := fun hh ha => ownsRow_grown (hh.alloc o) hg ha
  refine ⟨by simpa using h3, ?_, ?_, ?_⟩
  · intro i hi
    by_cases hlt : i < ll.length
    · rw [gv_append_left (by omega), gp_append_left hlt]
      exact hrow (ownsRow_below (h.each i hlt) hb (Nat.le_refl _)) (h.outer i hlt)
    · have he : i = ll.length := by simp at hi; omega
      rw [gv_append_last (by omega), gp_append_last he]
      exact hrow (h1.mono hbase) (apartV_lt hout fun b hb => (hnew b hb).1)
  · intro i j hij hj
    by_cases hlt : j < ll.length
    · rw [gv_append_left (by omega), gv_append_left (by omega)]
      exact h.part i j hij hlt
    · have he : j = ll.length := by simp at hj; omega
      rw [gv_append_left (by omega), gv_append_last (by omega)]
      exact apartV_lt (hin i (by omega)) fun b hb => (hnew b hb).1
  · intro i hi
    by_cases hlt : i < ll.length
    · rw [gv_append_left (by omega)]
      intro b hb'
      rcases hv' b hb' with e | e
      · exact h.outer i hlt b e
      · intro h2
        have := hin i hlt b h2
        omega
    · have he : i = ll.length := by simp at hi; omega
      rw [gv_append_last (by omega)]
      intro b hb'
      rcases hv' b hb' with e | e
      · intro h2
        have := hout b e
        have := (hnew b h2).1
        omega
      · intro h2
        have := (hnew b h2).2
        omega

end Go.Proofs.Ytalhoahkbmeeeaa
