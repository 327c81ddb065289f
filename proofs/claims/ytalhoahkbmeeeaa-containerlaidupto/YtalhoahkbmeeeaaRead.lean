/- what comes in, read: bytes, parts, types, a container; how long their lists are. -/
import Derived.Test.YtalhoahkbmeeeaaD
import Derived.Deep.Slices
import Derived.Deep.Fields
import Derived.ChangeSame
import Derived.OpenShut
import Derived.ProofKit
namespace Go.Proofs.Ytalhoahkbmeeeaa
open Go.ChangeShapes Go.WideShapes Go.ChangeAt Go.RowKit Go.Deep

section
variable {H : Type}
theorem bulk_pos (d : DataW H) : 1 ≤ Rows.uptoBulk d := by
  cases d with
  | lit l => cases l <;> simp [Rows.uptoBulk]
  | _ => simp [Rows.uptoBulk]

theorem bulkAll_len (l : List (DataW H)) : l.length ≤ Rows.uptoBulkAll l := by
  induction l with
  | nil => simp [Rows.uptoBulkAll]
  | cons d r ih => have := bulk_pos d; simp only [Rows.uptoBulkAll, List.length_cons]; omega

theorem bulkAll_mem {l : List (DataW H)} {d : DataW H} (h : d ∈ l) : Rows.uptoBulk d ≤ Rows.uptoBulkAll l := by
  induction l with
  | nil => cases h
  | cons x r ih =>
    simp only [Rows.uptoBulkAll]
    rcases List.mem_cons.1 h with rfl | h
    · omega
    · have := ih h; omega

theorem bulk_slice (a b : List (DataW H)) : Rows.uptoBulk (.slice a b) = Rows.uptoBulkAll a + Rows.uptoBulkAll b + 1 := by simp [Rows.uptoBulk]

variable {enc : TypeId × Value → H} {w : World} {base : Nat} {spare : Nat → Bool} {held : Bool}

theorem lits_len (k : IntKind) (l : List Int) : (lits (H := H) k l).length = l.length := by simp [lits]

theorem addr_plain {a : Addr} {v : Value} {w : World} (h : w.cell? (a.add 0) = some v) : ∃ b off, a = ⟨b, off, none⟩ := by
  obtain ⟨b, off, spot⟩ := a
  have hs : spot = none := by simpa [Addr.add] using World.cell?_spot h
  subst hs
  exact ⟨b, off, rfl⟩

theorem addr_at (b off j : Nat) : (⟨b, off, none⟩ : Addr).add j = ⟨b, off + j, none⟩ := by
  unfold Addr.add
  split
  · simp_all
  · rfl

theorem cells24 : Try.prog.cellsOf 24 = 1 := by kernel_rfl
theorem cells5 : Try.prog.cellsOf 5 = 1 := by kernel_rfl
theorem cells53 : Try.prog.cellsOf 53 = 3 := by kernel_rfl
theorem cells26 : Try.prog.cellsOf 26 = 5 := by kernel_rfl

/-- bytes that came in -/
theorem read_bytes {fuel : Nat} {v : Value} {y : DataW H × List MemPlace} (h : DataW.trod enc Try.prog w base spare held fuel 24 [v] = some y) :
    ∃ l : List Int, RB w v l ∧ l.length ≤ Rows.uptoBulk y.1 ∧ ∀ x ∈ l, 0 ≤ x ∧ x < 256 := by
  rcases open_ints Try.underlying24 Try.underlying5 cells5 h with ⟨hcs, rfl⟩ | ⟨a, len, cap, zs, hcs, _, hl, hm, hz, rfl, hcell, hwf⟩
  · injection hcs with e
    subst e
    exact ⟨[], ⟨rfl, none, 0, rfl, Nat.le_refl _, .inl rfl⟩, Nat.zero_le _, fun x hx => by cases hx⟩
  · injection hcs with e
    subst e
    have hzl : len ≤ zs.length := by rw [hz]; split <;> omega
    have htl : (zs.take len).length = len := by rw [List.length_take]; omega
    refine ⟨zs.take len, ?_, ?_, fun x hx => ?_⟩
    · unfold RB
      rw [htl]
      refine ⟨by simp [byteVals]; omega, some a, cap, rfl, hl, ?_⟩
      by_cases h0 : len = 0
      · left; subst h0; simp [byteVals]
      · right
        obtain ⟨b, off, rfl⟩ := addr_plain (hcell 0 (by omega))
        refine ⟨b, off, rfl, fun j hj => ?_⟩
        have hj' : j < len := by
          have : j < (zs.take len).length := by simpa only [byteVals, List.length_map] using hj
          omega
        have := hcell j (by omega)
        rw [addr_at] at this
        rw [this]
        simp [byteVals, List.getD, (by omega : j < zs.length)]
    · rw [bulk_slice, htl]
      have := bulkAll_len (lits (H := H) .u8 (zs.take len))
      rw [lits_len, htl] at this
      omega
    · have := hwf x (List.mem_of_mem_take hx)
      simp [Lit.wf, IntKind.min, IntKind.max, IntKind.signed, IntKind.bits] at this
      omega

/-- parts that came in -/
theorem read_parts {fuel : Nat} {v : Value} {y : DataW H × List MemPlace} (h : DataW.trod enc Try.prog w base spare held fuel 23 [v] = some y) :
    ∃ ll : List (List Int), RP w v ll ∧ ll.length ≤ Rows.uptoBulk y.1 ∧ ∀ k, k < ll.length → (gp ll k).length ≤ Rows.uptoBulk y.1 := by
  rcases open_slice1 Try.underlying23 cells24 h with ⟨hcs, rfl⟩ | ⟨a, len, cap, m, n, V, D, Pl, hcs, _, hl, hm, hmm, rfl, hi⟩
  · injection hcs with e
    subst e
    exact ⟨[], ⟨[], ⟨rfl, none, 0, rfl, Nat.le_refl _, .inl rfl⟩, fun i hi => absurd hi (Nat.not_lt_zero _)⟩, Nat.zero_le _, fun k hk => absurd hk (Nat.not_lt_zero _)⟩
  · injection hcs with e
    subst e
    have hlm : len ≤ m := by rw [hmm]; split <;> omega
    obtain ⟨f, hf⟩ := choose_lt (n := len) (p := fun i (l : List Int) => RB w (V i) l ∧ l.length ≤ Rows.uptoBulk (D i)) (fun i h => by
      obtain ⟨l, h1, h2, -⟩ := read_bytes (hi i (by omega)).2
      exact ⟨l, h1, h2⟩)
    have hL : ((List.range len).map f).length = len := by simp
    have hgp : ∀ i, i < len → gp ((List.range len).map f) i = f i := fun i hi => by rw [gp_eq (by simpa using hi)]; simp
    refine ⟨(List.range len).map f, ⟨(List.range len).map V, ?_, fun i hi => ?_⟩, ?_, fun k hk => ?_⟩
    · rw [hL]
      refine ⟨by simp, some a, cap, rfl, hl, ?_⟩
      by_cases h0 : len = 0
      · left; subst h0; rfl
      · right
        obtain ⟨b, off, rfl⟩ := addr_plain (hi 0 (by omega)).1
        refine ⟨b, off, rfl, fun j hj => ?_⟩
        have hj' : j < len := by simpa using hj
        have := (hi j (by omega)).1
        rw [addr_at] at this
        rw [this]
        simp
    · rw [hL] at hi
      rw [hgp i hi, gv_eq (by simpa using hi)]
      simpa using (hf i hi).1
    · rw [bulk_slice, hL]
      have := bulkAll_len ((List.range len).map D)
      simp only [List.length_map, List.length_range] at this
      omega
    · rw [hL] at hk
      rw [hgp k hk, bulk_slice]
      have h1 := (hf k hk).2
      have h2 := bulkAll_mem (l := (List.range len).map D) (d := D k) (List.mem_map.2 ⟨k, List.mem_range.2 hk, rfl⟩)
      omega

/-- a type that came in -/
theorem read_type {fuel : Nat} {cs : List Value} {y : DataW H × List MemPlace} (h : DataW.trod enc Try.prog w base spare held fuel 53 cs = some y) :
    ∃ t : Ty, cs = [.int .i64 t.1, .int .i64 t.2.1, .int .i64 t.2.2] := by
  obtain ⟨xs, n, -, -, hlen, hxl, hf⟩ := DataW.trod_struct Try.underlying53 h
  rw [cells53] at hlen
  match cs, hlen with
  | [c0, c1, c2], _ =>
    match xs, hxl with
    | [y0, y1, y2], _ =>
      have e3 : Try.prog.cellsOf 3 = 1 := by kernel_rfl
      have h0 : DataW.trod enc Try.prog w base spare held n 3 (([c0, c1, c2].drop 0).take (Try.prog.cellsOf 3)) = some y0 := hf 0 _ rfl
      have h1 : DataW.trod enc Try.prog w base spare held n 3 (([c0, c1, c2].drop 1).take (Try.prog.cellsOf 3)) = some y1 := hf 1 _ rfl
      have h2 : DataW.trod enc Try.prog w base spare held n 3 (([c0, c1, c2].drop 2).take (Try.prog.cellsOf 3)) = some y2 := hf 2 _ rfl
      rw [e3] at h0 h1 h2
      obtain ⟨a0, k0, -, -⟩ := DataW.trod_int Try.underlying3 h0
      obtain ⟨a1, k1, -, -⟩ := DataW.trod_int Try.underlying3 h1
      obtain ⟨a2, k2, -, -⟩ := DataW.trod_int Try.underlying3 h2
      simp at k0 k1 k2
      subst k0 k1 k2
      exact ⟨(a0, a1, a2), rfl⟩

/-- types that came in -/
theorem read_types {fuel : Nat} {v : Value} {y : DataW H × List MemPlace} (h : DataW.trod enc Try.prog w base spare held fuel 22 [v] = some y) :
    ∃ ts : List Ty, RT w v ts ∧ ts.length ≤ Rows.uptoBulk y.1 := by
  rcases open_slice Try.underlying22 h with ⟨hcs, rfl⟩ | ⟨a, len, cap, m, n, D, Pl, hcs, _, hl, hm, hmm, rfl, hi⟩
  · injection hcs with e
    subst e
    exact ⟨[], ⟨rfl, none, 0, rfl, Nat.le_refl _, .inl rfl⟩, Nat.zero_le _⟩
  · injection hcs with e
    subst e
    have hlm : len ≤ m := by rw [hmm]; split <;> omega
    obtain ⟨f, hf⟩ := choose_lt (n := len) (p := fun i (t : Ty) => w.cell? (a.add (i * 3)) = some (.int .i64 t.1) ∧ w.cell? (a.add (i * 3 + 1)) = some (.int .i64 t.2.1) ∧ w.cell? (a.add (i * 3 + 2)) = some (.int .i64 t.2.2)) (fun i h => by
      obtain ⟨cs', hc, ht⟩ := hi i (by omega)
      rw [cells53] at hc
      obtain ⟨t, rfl⟩ := read_type ht
      obtain ⟨_, _, hat⟩ := World.cells?_some hc
      refine ⟨t, ?_, ?_, ?_⟩
      · have := hat 0 (by omega)
        rw [Deep.add_add] at this
        simpa using this
      · have := hat 1 (by omega)
        rw [Deep.add_add] at this
        simpa using this
      · have := hat 2 (by omega)
        rw [Deep.add_add] at this
        simpa using this)
    have hL : ((List.range len).map f).length = len := by simp
    have hgt : ∀ i, i < len → gt ((List.range len).map f) i = f i := fun i hi => by rw [gt_eq (by simpa using hi)]; simp
    refine ⟨(List.range len).map f, ?_, ?_⟩
    · unfold RT
      rw [hL]
      refine ⟨by rw [tyVals_length, hL], some a, cap, rfl, hl, ?_⟩
      by_cases h0 : len = 0
      · left; subst h0; rfl
      · right
        obtain ⟨b, off, rfl⟩ := addr_plain (by have := (hf 0 (by omega)).1; simpa using this)
        refine ⟨b, off, rfl, fun j hj => ?_⟩
        have hj' : j < len * 3 := by rw [tyVals_length, hL] at hj; exact hj
        obtain ⟨e1, e2, e3⟩ := tyVals_at ((List.range len).map f) (j / 3) (by rw [hL]; omega)
        rw [hgt _ (by omega)] at e1 e2 e3
        obtain ⟨k1, k2, k3⟩ := hf (j / 3) (by omega)
        rw [addr_at] at k1 k2 k3
        have hr : j = 3 * (j / 3) ∨ j = 3 * (j / 3) + 1 ∨ j = 3 * (j / 3) + 2 := by omega
        have hg : (tyVals ((List.range len).map f))[j]? = some (tyVals ((List.range len).map f))[j] := List.getElem?_eq_getElem hj
        rcases hr with hr | hr | hr
        · rw [← hr, hg] at e1
          rw [show off + j = off + j / 3 * 3 by omega, k1, ← Option.some.inj e1]
        · rw [← hr, hg] at e2
          rw [show off + j = off + (j / 3 * 3 + 1) by omega, k2, ← Option.some.inj e2]
        · rw [← hr, hg] at e3
          rw [show off + j = off + (j / 3 * 3 + 2) by omega, k3, ← Option.some.inj e3]
    · rw [bulk_slice, hL]
      have := bulkAll_len ((List.range len).map D)
      simp only [List.length_map, List.length_range] at this
      omega

/-- a container that came in -/
theorem read_cn {r : Reach} {b0 : Nat} {v : Value} {d : DataW H} {p : List MemPlace} (hv : Value.okWide Try.prog w r b0 26 v) (h : DataW.Trod enc Try.prog w base spare held 26 v d p) :
    ∃ c : Cn, RCn w v c ∧ c.small (Rows.uptoBulk d) := by
  obtain ⟨cs, rfl, hsz⟩ := okWide_struct Try.underlying26 hv
  rw [cells26] at hsz
  obtain ⟨l⟩ := cs
  match l, hsz with
  | [c0, c1, c2, c3, c4], _ =>
    obtain ⟨fuel, hf⟩ := h
    obtain ⟨xs, n, -, hx, -, hlen, hg⟩ := DataW.trod_struct Try.underlying26 hf
    match xs, hlen with
    | [y0, y1, y2, y3, y4], _ =>
      have e3 : Try.prog.cellsOf 3 = 1 := by kernel_rfl
      have e22 : Try.prog.cellsOf 22 = 1 := by kernel_rfl
      have e23 : Try.prog.cellsOf 23 = 1 := by kernel_rfl
      have h0 : DataW.trod enc Try.prog w base spare held n 22 (([c0, c1, c2, c3, c4].drop 0).take (Try.prog.cellsOf 22)) = some y0 := hg 0 _ rfl
      have h1 : DataW.trod enc Try.prog w base spare held n 23 (([c0, c1, c2, c3, c4].drop 1).take (Try.prog.cellsOf 23)) = some y1 := hg 1 _ rfl
      have h2 : DataW.trod enc Try.prog w base spare held n 23 (([c0, c1, c2, c3, c4].drop 2).take (Try.prog.cellsOf 23)) = some y2 := hg 2 _ rfl
      have h3 : DataW.trod enc Try.prog w base spare held n 24 (([c0, c1, c2, c3, c4].drop 3).take (Try.prog.cellsOf 24)) = some y3 := hg 3 _ rfl
      have h4 : DataW.trod enc Try.prog w base spare held n 3 (([c0, c1, c2, c3, c4].drop 4).take (Try.prog.cellsOf 3)) = some y4 := hg 4 _ rfl
      rw [e22] at h0
      rw [e23] at h1 h2
      rw [cells24] at h3
      rw [e3] at h4
      obtain ⟨ts, g0, b0'⟩ := read_types h0
      obtain ⟨codes, g1, b1, b1'⟩ := read_parts h1
      obtain ⟨subs, g2, b2, b2'⟩ := read_parts h2
      obtain ⟨data, g3, b3, -⟩ := read_bytes h3
      obtain ⟨z, k4, -, -⟩ := DataW.trod_int Try.underlying3 h4
      simp at k4
      subst k4
      simp only [Prod.mk.injEq] at hx
      have hb : Rows.uptoBulk d = Rows.uptoBulk y0.1 + (Rows.uptoBulk y1.1 + (Rows.uptoBulk y2.1 + (Rows.uptoBulk y3.1 + (Rows.uptoBulk y4.1 + 0)))) + 1 := by
        rw [hx.1]; simp [Rows.uptoBulk, Rows.uptoBulkAll]
      refine ⟨⟨ts, codes, subs, data, z⟩, ⟨_, _, _, _, rfl, g0, g1, g2, g3⟩, ⟨?_, ?_, ?_, ?_, fun i hi => ?_, fun i hi => ?_⟩⟩
      · show ts.length ≤ _; omega
      · show codes.length ≤ _; omega
      · show subs.length ≤ _; omega
      · show data.length ≤ _; omega
      · have := b1' i hi; show (gp codes i).length ≤ _; omega
      · have := b2' i hi; show (gp subs i).length ≤ _; omega
end

end Go.Proofs.Ytalhoahkbmeeeaa
