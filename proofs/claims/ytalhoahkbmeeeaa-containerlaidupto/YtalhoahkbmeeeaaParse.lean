/- Parse (16) of the bytes of a container that may be: that container, in new memory. -/
import Derived.Test.YtalhoahkbmeeeaaTypes
import Derived.Defers
import Derived.Recover
namespace Go.Proofs.Ytalhoahkbmeeeaa
open Go.RowKit

/-- the deferred closure where nothing panics -/
theorem catch_idle (p q : Addr) (w : World) :
    CallsD Try.prog 30 #[.pointer (some p), .pointer (some q)] .returning w fun e u' w' => e = .returned (.tuple #[]) ∧ u' = .returning ∧ w' = w := by
  refine callsD_of_wpS Try.func30 rfl fun c₀ cs hu => ?_
  apply wpS_seq
  apply wpS_region
  simp [wpOpsS, go_sem, recoverD, hu, Try.ntmps30, Exit.thenS]
  apply wpS_seq
  apply wpS_region
  simp [wpOpsS, go_sem, Exit.thenS, Act.eval, Array.replicate]
  refine wpS_cond (t := false) (by simp [Act.eval]) ?_
  simp only [Bool.false_eq_true, if_false]
  refine wpS_of_wp (wp_skip ?_)
  cases c₀
  simp_all [bodyPostS, results, Try.results30]

theorem drop_tail {l rest : List Int} {p : Nat} {xs : List Int} {q : Nat} (hd : l.drop p = xs ++ rest) (hq : q = p + xs.length) : l.drop q = rest := by
  rw [hq, ← List.drop_drop, hd, List.drop_left]

theorem drop_len {l rest : List Int} {p : Nat} (hd : l.drop p = rest) (hr : rest ≠ []) : p + rest.length = l.length := by
  have := congrArg List.length hd
  rw [List.length_drop] at this
  cases rest with
  | nil => exact absurd rfl hr
  | cons a r => simp at this ⊢; omega

/-- next of two bytes, of one -/
theorem next2_ok {w0 w : World} {g : Nat} {v : Value} {l rest : List Int} {p : Nat} {x : Int} (h0 : RB w0 v l) (hb : Below w0.heap.size w0 w) (hg : w0.heap.size ≤ g) (hr : RD w g v (p : Int)) (hd : l.drop p = be2 x ++ rest) (hx0 : 0 ≤ x) (hx1 : x ≤ 65535) (hlen : l.length ≤ 1000000000) :
    Calls Try.prog 32 #[.pointer (some ⟨g, 0, none⟩), .int .i64 2] w fun e w' => e = .returned (.tuple #[.int .i64 x, .int .i64 (p : Int)]) ∧ RD w' g v ((p + 2 : Nat) : Int) ∧ Kp (· = g) w w' := by
  have hp := drop_len hd (by simp [be2])
  have ht : (l.drop p).take 2 = be2 x := by rw [hd]; rfl
  have := next_ok (n := 2) h0 (by rw [ht]; intro y hy; simp [be2] at hy; omega) hb hg hr (by omega) (by simp [be2] at hp; omega) hlen
  rw [ht, num_be2 x hx0 hx1] at this
  exact this
theorem next1_ok {w0 w : World} {g : Nat} {v : Value} {l rest : List Int} {p : Nat} {x : Int} (h0 : RB w0 v l) (hb : Below w0.heap.size w0 w) (hg : w0.heap.size ≤ g) (hr : RD w g v (p : Int)) (hd : l.drop p = [x] ++ rest) (hx0 : 0 ≤ x) (hx1 : x < 256) (hlen : l.length ≤ 1000000000) :
    Calls Try.prog 32 #[.pointer (some ⟨g, 0, none⟩), .int .i64 1] w fun e w' => e = .returned (.tuple #[.int .i64 x, .int .i64 (p : Int)]) ∧ RD w' g v ((p + 1 : Nat) : Int) ∧ Kp (· = g) w w' := by
  have hp := drop_len hd (by simp)
  have ht : (l.drop p).take 1 = [x] := by rw [hd]; rfl
  have := next_ok (n := 1) h0 (by rw [ht]; intro y hy; simp at hy; omega) hb hg hr (by omega) (by simp at hp; omega) hlen
  rw [ht, show num [x] = x by simp [num]] at this
  exact this

/-- what Parse answers: the container in new memory, each list a block of its own; no refusal -/
def ParsePost (w : World) (c : Cn) (e : Ending) (w' : World) : Prop :=
  ∃ at_ ct vc us vs ws ad cd B2 B3 B4, e = .returned (.tuple #[.agg #[.slice at_ c.ts.length ct, vc, vs, .slice ad c.data.length cd, .int .i64 c.size], .agg #[.int .i64 0, .slice none 0 0, .int .i64 0, .int .i64 0]]) ∧
    Own3 w' w.heap.size B2 B3 B4 (.slice at_ c.ts.length ct) vc vs us ws c ∧
    w'.ownsRow B4 5 1 (.slice ad c.data.length cd) c.data.length (byteVals c.data) ∧ Below w.heap.size w w'

/-- the blocks that Parse holds: the container's, the refusal's, the reader -/
structure PS (w W : World) (v : Value) (p : Nat) (vt vc vs vd : Value) (z : Int) : Prop where
  rd : RD W (w.heap.size + 1 + 1) v (p : Int)
  cn : W.heap[w.heap.size]? = some (.cells #[vt, vc, vs, vd, .int .i64 z] 26)
  no : W.heap[w.heap.size + 1]? = some (.cells #[.int .i64 0, .slice none 0 0, .int .i64 0, .int .i64 0] 45)
  be : Below w.heap.size w W

theorem PS.read {w W W' : World} {v : Value} {p q : Nat} {vt vc vs vd : Value} {z : Int} (h : PS w W v p vt vc vs vd z) (hr : RD W' (w.heap.size + 1 + 1) v (q : Int)) (hk : Kp (· = w.heap.size + 1 + 1) W W') : PS w W' v q vt vc vs vd z :=
  ⟨hr, hk.heap h.cn (by show ¬ _ = _; omega), hk.heap h.no (by show ¬ _ = _; omega), h.be.trans (hk.below h.be.size (fun b _ e => by omega))⟩

theorem ps_init (w : World) (v : Value) : PS w (((w.alloc (.cells #[.slice none 0 0, .slice none 0 0, .slice none 0 0, .slice none 0 0, .int .i64 0] 26)).alloc (.cells #[.int .i64 0, .slice none 0 0, .int .i64 0, .int .i64 0] 45)).alloc (.cells #[v, .int .i64 0] 68)) v 0 (.slice none 0 0) (.slice none 0 0) (.slice none 0 0) (.slice none 0 0) 0 := by
  have e1 : (((w.alloc (.cells #[.slice none 0 0, .slice none 0 0, .slice none 0 0, .slice none 0 0, .int .i64 0] 26)).alloc (.cells #[.int .i64 0, .slice none 0 0, .int .i64 0, .int .i64 0] 45)).alloc (.cells #[v, .int .i64 0] 68)).heap[w.heap.size + 1 + 1]? = some (.cells #[v, .int .i64 0] 68) := by
    have := heap_alloc_new ((w.alloc (.cells #[.slice none 0 0, .slice none 0 0, .slice none 0 0, .slice none 0 0, .int .i64 0] 26)).alloc (.cells #[.int .i64 0, .slice none 0 0, .int .i64 0, .int .i64 0] 45)) (.cells #[v, .int .i64 0] 68)
    simpa using this
  refine ⟨⟨by rw [cell_of_row _ _ _ _ _ _ e1]; rfl, by rw [cell_of_row _ _ _ _ _ _ e1]; rfl, frozen_of_row _ _ _ _ _ e1⟩, heap_alloc (heap_alloc (heap_alloc_new _ _)), ?_, (((Below.refl _ _).alloc (Nat.le_refl _) _).alloc (by simp) _).alloc (by simp; omega) _⟩
  have := heap_alloc (o' := .cells #[v, .int .i64 0] 68) (heap_alloc_new (w.alloc (.cells #[.slice none 0 0, .slice none 0 0, .slice none 0 0, .slice none 0 0, .int .i64 0] 26)) (.cells #[.int .i64 0, .slice none 0 0, .int .i64 0, .int .i64 0] 45))
  simpa using this

theorem drop_le {l rest : List Int} {p : Nat} {xs : List Int} (hd : l.drop p = xs ++ rest) (hx : xs ++ rest ≠ [] := by simp) : p ≤ l.length := by
  have := drop_len hd hx
  omega

theorem ser_len {c : Cn} (hm : c.may) (hsm : c.small 2097152) : (ser c).length ≤ 1000000000 := by
  have h1 := flat_len (fun i hi => hm.code2 i hi) c.codes.length (Nat.le_refl _)
  have h2 := flat_len (fun i hi => hsm.sub i hi) c.subs.length (Nat.le_refl _)
  rw [List.take_length] at h1 h2
  have := hm.codes2
  have := hm.subs
  have := hm.types
  have := hsm.data
  have h3 : (ser2 c).length ≤ 1027 := by unfold ser2; split <;> simp [be2, lens4_len] <;> omega
  unfold ser
  simp only [List.length_append, lens2_len, types4_len, ser1, ser3, be2, List.length_cons, List.length_nil]
  omega

theorem PS.set {w W : World} {v : Value} {p : Nat} {vt vc vs vd : Value} {z : Int} (h : PS w W v p vt vc vs vd z) (j : Nat) (u vt' vc' vs' vd' : Value) (z' : Int)
    (e : (#[vt, vc, vs, vd, .int .i64 z] : Array Value).setIfInBounds j u = #[vt', vc', vs', vd', .int .i64 z']) : PS w (W.setCell ⟨w.heap.size, j, none⟩ u) v p vt' vc' vs' vd' z' :=
  ⟨h.rd.kp (Kp.setCell (S := fun b => b = w.heap.size) (p := ⟨w.heap.size, j, none⟩) (Kp.refl _ _) rfl _) (by show ¬ _ = _; omega), by rw [← e]; exact heap_setCell_same _ _ _ _ _ _ h.cn, heap_set_ne h.no (by omega) _, h.be.setCell (p := ⟨w.heap.size, j, none⟩) (Nat.le_refl _) _⟩

theorem be2_ne (x : Int) (r : List Int) : be2 x ++ r ≠ [] := by simp [be2]

theorem OwnParts.kp {S : Nat → Prop} {w w' : World} {base : Nat} {v : Value} {vs : List Value} {ll : List (List Int)} (h : OwnParts w base v vs ll) (hk : Kp S w w') (hn : ∀ b, base ≤ b → ¬ S b) : OwnParts w' base v vs ll :=
  ⟨hk.owns h.row (fun b hb => hn b (h.row.lt b hb).1), fun i hi => hk.owns (h.each i hi) (fun b hb => hn b ((h.each i hi).lt b hb).1), h.part, h.outer⟩

theorem intsAt_own {w : World} {base g : Nat} {a : Option Addr} {n c : Nat} {zs : List Int} (h : w.ownsRow base 3 1 (.slice a n c) n (intVals zs)) (hg : g < base) : IntsAt w a n c zs g := by
  refine ⟨RC.ofOwn h, fun x hx => ?_⟩
  subst hx
  have := h.lt x.block rfl
  exact ⟨by omega, this.2⟩
theorem intsAt_nil (w : World) (g : Nat) : IntsAt w none 0 0 [] g := ⟨⟨rfl, none, 0, rfl, Nat.le_refl _, .inl rfl⟩, fun x hx => by cases hx⟩

theorem Cn.may.tyOk {c : Cn} (hm : c.may) : TyOk c.ts :=
  ⟨fun k hk => hm.in1 k (by rw [← hm.types]; exact hk), fun k hk => hm.in2 k (by rw [← hm.types]; exact hk), fun k hk => hm.out1 k (by rw [← hm.types]; exact hk), fun k hk => hm.out2 k (by rw [← hm.types]; exact hk),
    fun k hk => hm.most1 k (by rw [← hm.types]; exact hk), fun k hk => hm.most2 k (by rw [← hm.types]; exact hk), hm.first1, hm.first2⟩

/-- a store of what stands there -/
theorem setCell_self {w : World} {a : Addr} {v : Value} (h : w.cell? a = some v) : w.setCell a v = w := by
  unfold World.cell? at h
  split at h
  · rename_i c e f hb
    cases w with
    | mk heap tape drawn os output =>
      simp only [World.setCell]
      congr 1
      apply Array.ext_getElem?
      intro i
      rw [Array.getElem?_modify]
      by_cases hi : i = a.block
      · subst hi
        have hb' : heap[a.block]? = some (.cells c e f) := hb
        rw [if_pos rfl, hb']
        simp only [Option.map_some]
        by_cases hs : a.spot.isSome
        · simp [hs] at h
        · rw [if_neg hs] at h ⊢
          congr 2
          apply Array.ext_getElem?
          intro j
          rw [Array.getElem?_setIfInBounds]
          by_cases hj : a.off = j
          · subst hj
            simp only [if_true]
            split
            · exact h.symm
            · rename_i hlt
              rw [Array.getElem?_eq_none (by omega)] at h
              cases h
          · rw [if_neg hj]
      · rw [if_neg (fun e => hi e.symm)]
  · cases h

theorem PS.next {w W W' : World} {v : Value} {p : Nat} {vt vc vs vd : Value} {z : Int} (h : PS w W v p vt vc vs vd z) (hb : Below W.heap.size W W') : PS w W' v p vt vc vs vd z :=
  ⟨h.rd.kp (Kp.ofBelow (S := fun _ => False) hb) (fun h => h), (Kp.ofBelow (S := fun _ => False) hb).heap h.cn (fun h => h), (Kp.ofBelow (S := fun _ => False) hb).heap h.no (fun h => h), h.be.trans (hb.mono h.be.size)⟩

set_option maxRecDepth 100000 in
set_option maxHeartbeats 6400000 in
theorem parse_ok {w : World} {v : Value} {c : Cn} {op : Bool} (h0 : RB w v (ser c)) (hm : c.may) (hsm : c.small 2097152) (hop : op = true ∨ (c.data.length : Int) = c.size) :
    Calls Try.prog 16 #[v, .bool op] w fun e w' => ParsePost w c e w' := by
  have hmf : ∀ (fn : Fn) (first cap : Array Value) (w : World), (Instr.makeFunc fn first cap).run Try.prog w = .ok (.func fn first cap) w := fun _ _ _ _ => rfl
  obtain ⟨a, cc, rfl⟩ := RC.slice h0
  have hlen : (ser c).length ≤ 1000000000 := ser_len hm hsm
  have HM := Lib.hid hm
  have HSM := Lib.hid hsm
  have m1 : 1 ≤ c.codes.length := hm.codes1
  have m2 : c.codes.length ≤ 1024 := hm.codes2
  have m3 : c.subs.length ≤ 256 := hm.subs
  have z0 : 0 ≤ c.size := by have := hm.data; omega
  have z1 : c.size ≤ 65535 := hm.size
  obtain ⟨F, hF⟩ : ∃ F : Int, F = 4 * (c.codes.length : Int) := ⟨_, rfl⟩
  have f0 : 0 < F := by omega
  have f1 : F ≤ 4096 := by omega
  have f2 : (F % 4 == 0) = true := by rw [beq_iff_eq]; omega
  have f3 : IntKind.i64.wrap (4 * (c.codes.length : Int)) = F := by rw [IntWalk.i64_in _ (by omega)]; exact hF.symm
  have HF := Lib.hid hF
  obtain ⟨R10, hR10⟩ : ∃ R, R = types4 c.ts ++ (c.codes.flatten ++ (c.subs.flatten ++ c.data)) := ⟨_, rfl⟩
  obtain ⟨R7, hR7⟩ : ∃ R, R = be2 c.size ++ ([0] ++ R10) := ⟨_, rfl⟩
  have hse : ser c = [239] ++ ([0] ++ ([1] ++ ([1] ++ (be2 F ++ ([2] ++ (be2 (c.codes.length : Int) ++ (lens2 c.codes ++ (ser2 c ++ ([255] ++ R7))))))))) := by
    rw [hR7, hR10, hF]; simp [ser, ser1, ser3]
  have d0 : (ser c).drop 0 = [239] ++ _ := hse
  have d1 := drop_tail (q := 1) d0 rfl
  have d2 := drop_tail (q := 2) d1 rfl
  have d3 := drop_tail (q := 3) d2 rfl
  have d4 := drop_tail (q := 4) d3 rfl
  have d6 := drop_tail (q := 6) d4 rfl
  have d7 := drop_tail (q := 7) d6 rfl
  have d9 := drop_tail (q := 9) d7 rfl
  have D0 := Lib.hid d0
  have D1 := Lib.hid d1
  have D2 := Lib.hid d2
  have D3 := Lib.hid d3
  have D4 := Lib.hid d4
  have D6 := Lib.hid d6
  have D7 := Lib.hid d7
  have D9 := Lib.hid d9
  have HR10 := Lib.hid hR10
  have HR7 := Lib.hid hR7
  clear hse d0 d1 d2 d3 d4 d6 d7 d9 hR10 hR7 hF hm hsm
  have H0 := Lib.hid h0
  clear h0
  have h0 := H0
  go_enter_defers Try.func16, Try.ntmps16
  go_wp2_with fail
  obtain ⟨X0, hX0⟩ : ∃ X, X = (((w.alloc (.cells #[.slice none 0 0, .slice none 0 0, .slice none 0 0, .slice none 0 0, .int .i64 0] 26)).alloc (.cells #[.int .i64 0, .slice none 0 0, .int .i64 0, .int .i64 0] 45)).alloc (.cells #[.slice a (ser c).length cc, .int .i64 0] 68)) := ⟨_, rfl⟩
  rw [← hX0]
  have HP0 := Lib.hid (show PS w X0 (.slice a (ser c).length cc) 0 (.slice none 0 0) (.slice none 0 0) (.slice none 0 0) (.slice none 0 0) 0 by rw [hX0]; exact ps_init w _)
  clear hX0
  refine (want_ok _ h0.out (x := 239) (by omega) (by omega) HP0.out.be (by omega) HP0.out.rd D0.out hlen).mono ?_
  rintro _ X1 ⟨rfl, hr, hk⟩
  have HP1 := Lib.hid (HP0.out.read hr hk)
  clear hr hk
  go_wp2_with fail
  refine (want_ok _ h0.out (x := 0) (by omega) (by omega) HP1.out.be (by omega) HP1.out.rd D1.out hlen).mono ?_
  rintro _ X2 ⟨rfl, hr, hk⟩
  have HP2 := Lib.hid (HP1.out.read hr hk)
  clear hr hk
  go_wp2_with fail
  refine (want_ok _ h0.out (x := 1) (by omega) (by omega) HP2.out.be (by omega) HP2.out.rd D2.out hlen).mono ?_
  rintro _ X3 ⟨rfl, hr, hk⟩
  have HP3 := Lib.hid (HP2.out.read hr hk)
  clear hr hk
  go_wp2_with fail
  refine (want_ok _ h0.out (x := 1) (by omega) (by omega) HP3.out.be (by omega) HP3.out.rd D3.out hlen).mono ?_
  rintro _ X4 ⟨rfl, hr, hk⟩
  have HP4 := Lib.hid (HP3.out.read hr hk)
  clear hr hk
  go_wp2_with fail
  refine (next2_ok h0.out (x := F) HP4.out.be (by omega) HP4.out.rd D4.out (by omega) (by omega) hlen).mono ?_
  rintro _ X5 ⟨rfl, hr, hk⟩
  have HP5 := Lib.hid (HP4.out.read hr hk)
  clear hr hk
  go_wp2_with fail
  refine (ask_ok _ _ _ _).mono ?_
  rintro _ X5 ⟨rfl, rfl⟩
  go_wp2_with fail
  refine (want_ok _ h0.out (x := 2) (by omega) (by omega) HP5.out.be (by omega) HP5.out.rd D6.out hlen).mono ?_
  rintro _ X6 ⟨rfl, hr, hk⟩
  have HP6 := Lib.hid (HP5.out.read hr hk)
  clear hr hk
  go_wp2_with fail
  refine (next2_ok h0.out (x := (c.codes.length : Int)) HP6.out.be (by omega) HP6.out.rd D7.out (by omega) (by omega) hlen).mono ?_
  rintro _ X7 ⟨rfl, hr, hk⟩
  have HP7 := Lib.hid (HP6.out.read hr hk)
  clear hr hk
  go_wp2_with fail
  refine (ask_ok _ _ _ _).mono ?_
  rintro _ X7 ⟨rfl, rfl⟩
  go_wp2_with fail
  refine (sizes_ok (n := 2) (.inl rfl) h0.out HP7.out.be (by omega) HP7.out.rd D9.out (drop_le D9.out) hlen (fun k hk => ⟨HM.out.code1 k hk, by have := HM.out.code2 k hk; omega⟩) m2).mono ?_
  rintro _ X8 ⟨a8, c8, rfl, ho8, hr, hk⟩
  have HP8 := Lib.hid (HP7.out.read hr hk)
  have HO8 := Lib.hid ho8
  have HXB := Lib.hid HP7.out.rd.lt
  have HX8 := Lib.hid (show X7.heap.size ≤ X8.heap.size from hk.size)
  clear hr hk ho8
  by_cases hsub : 0 < c.subs.length
  · have hss : ser2 c = [3] ++ be2 (c.subs.length : Int) ++ lens4 c.subs := if_pos hsub
    have dk := drop_tail (q := 9 + 2 * c.codes.length) D9.out (by rw [lens2_len])
    rw [hss, show [3] ++ be2 (c.subs.length : Int) ++ lens4 c.subs ++ ([255] ++ R7) = [3] ++ (be2 (c.subs.length : Int) ++ (lensN 4 c.subs ++ ([255] ++ R7))) by simp [lensN4]] at dk
    have e1 := drop_tail (q := 9 + 2 * c.codes.length + 1) dk rfl
    have e2 := drop_tail (q := 9 + 2 * c.codes.length + 1 + 2) e1 rfl
    have e3 := drop_tail (q := 9 + 2 * c.codes.length + 1 + 2 + 4 * c.subs.length) e2 (by rw [lensN_len (.inr rfl)])
    have e4 := drop_tail (q := 9 + 2 * c.codes.length + 1 + 2 + 4 * c.subs.length + 1) e3 rfl
    have DK := Lib.hid dk
    have E1 := Lib.hid e1
    have E2 := Lib.hid e2
    have E3 := Lib.hid e3
    have E4 := Lib.hid e4
    have hm1 : (0 : Int) < (c.subs.length : Int) := by omega
    have hm2 : (c.subs.length : Int) ≤ 256 := by omega
    clear hss dk e1 e2 e3 e4
    go_wp2_with fail
    refine (next1_ok h0.out (x := 3) HP8.out.be (by omega) HP8.out.rd DK.out (by omega) (by omega) hlen).mono ?_
    rintro _ X9 ⟨rfl, hr, hk⟩
    have HP9 := Lib.hid (HP8.out.read hr hk)
    have HO9 := Lib.hid (hk.owns HO8.out (fun b hb e => by have := (HO8.out.lt b hb).1; have := HXB.out; omega))
    have HX9 := Lib.hid (show X7.heap.size ≤ X9.heap.size from Nat.le_trans HX8.out hk.size)
    clear hr hk
    go_wp2_with fail
    refine (ask_ok _ _ _ _).mono ?_
    rintro _ X9 ⟨rfl, rfl⟩
    go_wp2_with fail
    refine (next2_ok h0.out (x := (c.subs.length : Int)) HP9.out.be (by omega) HP9.out.rd E1.out (by omega) (by omega) hlen).mono ?_
    rintro _ X10 ⟨rfl, hr, hk⟩
    have HP10 := Lib.hid (HP9.out.read hr hk)
    have HO10 := Lib.hid (hk.owns HO9.out (fun b hb e => by have := (HO9.out.lt b hb).1; have := HXB.out; omega))
    have HX10 := Lib.hid (show X7.heap.size ≤ X10.heap.size from Nat.le_trans HX9.out hk.size)
    clear hr hk
    go_wp2_with fail
    refine (ask_ok _ _ _ _).mono ?_
    rintro _ X10 ⟨rfl, rfl⟩
    go_wp2_with fail
    refine (sizes_ok (n := 4) (.inr rfl) h0.out HP10.out.be (by omega) HP10.out.rd E2.out (drop_le E2.out) hlen (fun k hk => ⟨HM.out.sub1 k hk, by have := HM.out.sub2 k hk; omega⟩) (by omega)).mono ?_
    rintro _ X11 ⟨a11, c11, rfl, ho11, hr, hk⟩
    have HP11 := Lib.hid (HP10.out.read hr hk)
    have HQ11 := Lib.hid (ho11.mono (show X7.heap.size ≤ X10.heap.size from HX10.out))
    have HO11 := Lib.hid (hk.owns HO10.out (fun b hb e => by have := (HO10.out.lt b hb).1; have := HXB.out; omega))
    have HX11 := Lib.hid (show X7.heap.size ≤ X11.heap.size from Nat.le_trans HX10.out hk.size)
    clear hr hk ho11
    go_wp2_with fail
    refine (want_ok _ h0.out (x := 255) (by omega) (by omega) HP11.out.be (by omega) HP11.out.rd E3.out hlen).mono ?_
    rintro _ X12 ⟨rfl, hr, hk⟩
    have HP12 := Lib.hid (HP11.out.read hr hk)
    have HO12 := Lib.hid (hk.owns HO11.out (fun b hb e => by have := (HO11.out.lt b hb).1; have := HXB.out; omega))
    have HQ12 := Lib.hid (hk.owns HQ11.out (fun b hb e => by have := (HQ11.out.lt b hb).1; have := HXB.out; omega))
    have HX12 := Lib.hid (show X7.heap.size ≤ X12.heap.size from Nat.le_trans HX11.out hk.size)
    clear hr hk
    go_wp2_with fail
    obtain ⟨pk, hpk⟩ : ∃ pk : Nat, pk = 9 + 2 * c.codes.length + 1 + 2 + 4 * c.subs.length + 1 := ⟨_, rfl⟩
    have HPK := Lib.hid (show PS w X12 (.slice a (ser c).length cc) pk (.slice none 0 0) (.slice none 0 0) (.slice none 0 0) (.slice none 0 0) 0 by rw [hpk]; exact HP12.out)
    have e5 : (ser c).drop pk = be2 c.size ++ ([0] ++ R10) := by rw [hpk, ← HR7.out]; exact E4.out
    have e6 := drop_tail (q := pk + 2) e5 rfl
    have e7 := drop_tail (q := pk + 2 + 1) e6 rfl
    have E5 := Lib.hid e5
    have E6 := Lib.hid e6
    have E7 := Lib.hid e7
    clear hpk e5 e6 e7
    refine (next2_ok h0.out (x := c.size) HPK.out.be (by omega) HPK.out.rd E5.out z0 z1 hlen).mono ?_
    rintro _ X13 ⟨rfl, hr, hk⟩
    have HP13 := Lib.hid (HPK.out.read hr hk)
    have HO13 := Lib.hid (hk.owns HO12.out (fun b hb e => by have := (HO12.out.lt b hb).1; have := HXB.out; omega))
    have HQ13 := Lib.hid (hk.owns HQ12.out (fun b hb e => by have := (HQ12.out.lt b hb).1; have := HXB.out; omega))
    have HX13 := Lib.hid (show X7.heap.size ≤ X13.heap.size from Nat.le_trans HX12.out hk.size)
    clear hr hk
    have hc4 : X13.cell? ⟨w.heap.size, 4, none⟩ = some (.int .i64 0) := by rw [cell_of_row _ _ _ _ _ _ HP13.out.cn]; rfl
    have hf4 : X13.frozen? ⟨w.heap.size, 4, none⟩ = false := frozen_of_row _ _ _ _ _ HP13.out.cn
    go_wp2_with fail
    obtain ⟨X14, hX14⟩ : ∃ X, X = X13.setCell ⟨w.heap.size, 4, none⟩ (.int .i64 c.size) := ⟨_, rfl⟩
    rw [← hX14]
    have HP14 := Lib.hid (show PS w X14 (.slice a (ser c).length cc) (pk + 2) (.slice none 0 0) (.slice none 0 0) (.slice none 0 0) (.slice none 0 0) c.size by rw [hX14]; exact HP13.out.set 4 _ _ _ _ _ _ rfl)
    have HO14 := Lib.hid (show X14.ownsRow X7.heap.size 3 1 _ _ _ by rw [hX14]; exact ownsRow_setCell_ne (a := ⟨w.heap.size, 4, none⟩) HO13.out (fun e => by have h1 : X7.heap.size ≤ w.heap.size := (HO13.out.lt _ e).1; have := HXB.out; omega) _)
    have HQ14 := Lib.hid (show X14.ownsRow X7.heap.size 3 1 _ _ _ by rw [hX14]; exact ownsRow_setCell_ne (a := ⟨w.heap.size, 4, none⟩) HQ13.out (fun e => by have h1 : X7.heap.size ≤ w.heap.size := (HQ13.out.lt _ e).1; have := HXB.out; omega) _)
    have HX14 := Lib.hid (show X7.heap.size ≤ X14.heap.size by rw [hX14]; simpa [World.setCell] using HX13.out)
    clear hX14 hc4 hf4
    refine (want_ok _ h0.out (x := 0) (by omega) (by omega) HP14.out.be (by omega) HP14.out.rd E6.out hlen).mono ?_
    rintro _ X15 ⟨rfl, hr, hk⟩
    have HP15 := Lib.hid (HP14.out.read hr hk)
    have HO15 := Lib.hid (hk.owns HO14.out (fun b hb e => by have := (HO14.out.lt b hb).1; have := HXB.out; omega))
    have HQ15 := Lib.hid (hk.owns HQ14.out (fun b hb e => by have := (HQ14.out.lt b hb).1; have := HXB.out; omega))
    have HX15 := Lib.hid (show X7.heap.size ≤ X15.heap.size from Nat.le_trans HX14.out hk.size)
    clear hr hk
    obtain ⟨r0, r1, rz⟩ := HP15.out.rd
    have k4 : X15.cell? ⟨w.heap.size, 4, none⟩ = some (.int .i64 c.size) := by rw [cell_of_row _ _ _ _ _ _ HP15.out.cn]; rfl
    have hl10 : (ser c).length = pk + 2 + 1 + R10.length := by
      have := drop_len E7.out (by rw [HR10.out]; intro h; have := congrArg List.length h; simp [types4_len] at this; have := HM.out.types; omega)
      omega
    have hR10 : R10.length = 4 * c.codes.length + c.codes.flatten.length + c.subs.flatten.length + c.data.length := by
      rw [HR10.out]; simp only [List.length_append, types4_len]; have := HM.out.types; omega
    have hsc : sumLen c.codes = (c.codes.flatten.length : Int) := rfl
    have hsd : sumLen c.subs = (c.subs.flatten.length : Int) := rfl
    have hF := HF.out
    have g0 : (0 : Int) ≤ sumLen c.codes := by omega
    have g1 : sumLen c.codes ≤ 1000000000 := by omega
    have g2 : (0 : Int) ≤ sumLen c.subs := by omega
    have g3 : sumLen c.subs ≤ 1000000000 := by omega
    have g4 : (pk : Int) ≤ 1000000000 := by omega
    have g5 : (pk : Int) + 2 + 1 + F + sumLen c.codes + sumLen c.subs ≤ ((ser c).length : Int) := by omega
    have g6 : ((ser c).length : Int) ≤ (pk : Int) + 2 + 1 + F + sumLen c.codes + sumLen c.subs + c.size := by have := HM.out.data; omega
    have G7 := Lib.hid (show ((ser c).length : Int) = (pk : Int) + 2 + 1 + F + sumLen c.codes + sumLen c.subs + (c.data.length : Int) by omega)
    clear hl10 hR10 hsc hsd hF
    have hor : op = true ∨ (pk : Int) + 2 + 1 + F + sumLen c.codes + sumLen c.subs + c.size ≤ ((ser c).length : Int) := hop.elim .inl (fun h => .inr (by have := G7.out; omega))
    have HOR := Lib.hid hor
    clear hor
    cases op with
    | true =>
      go_wp2_with fail
      go_wp2_with fail
      refine (ask_ok _ _ _ _).mono ?_
      rintro _ X15 ⟨rfl, rfl⟩
      have hty := types_ok h0.out HP15.out.be (by omega) HP15.out.rd (by rw [← HR10.out]; exact E7.out) (by have := G7.out; omega) hlen (by have := HM.out.types; omega) HM.out.tyOk (by omega) (Nat.le_refl _) HP15.out.cn
      rw [HM.out.types] at hty
      have HTY := Lib.hid hty
      clear hty r0 r1 rz k4
      go_wp2_with fail
      refine HTY.out.mono ?_
      rintro _ X16 ⟨vt, rfl, ht, hr, hcn, hk⟩
      have HP16 := Lib.hid (show PS w X16 (.slice a (ser c).length cc) (pk + 2 + 1 + 4 * c.codes.length) vt (.slice none 0 0) (.slice none 0 0) (.slice none 0 0) c.size from ⟨hr, hcn, hk.heap HP15.out.no (fun e => by rcases e with e | e <;> omega), HP15.out.be.trans (hk.below HP15.out.be.size (fun b _ e => by rcases e with e | e <;> omega))⟩)
      have HO16 := Lib.hid (hk.owns HO15.out (fun b hb e => by have := (HO15.out.lt b hb).1; have := HXB.out; rcases e with e | e <;> omega))
      have HQ16 := Lib.hid (hk.owns HQ15.out (fun b hb e => by have := (HQ15.out.lt b hb).1; have := HXB.out; rcases e with e | e <;> omega))
      have HX16 := Lib.hid (show X7.heap.size ≤ X16.heap.size from Nat.le_trans HX15.out hk.size)
      have HX1516 := Lib.hid hk.size
      have HXF := Lib.hid HP15.out.rd.lt
      obtain ⟨at_, ct, rfl⟩ := ownsRow_slice ht
      have HT16 := Lib.hid ht
      clear hr hk hcn
      have e8 := drop_tail (q := pk + 2 + 1 + 4 * c.codes.length) (E7.out.trans HR10.out) (by rw [types4_len, HM.out.types])
      have E8 := Lib.hid e8
      have E9 := Lib.hid (drop_tail (q := pk + 2 + 1 + 4 * c.codes.length + c.codes.flatten.length) e8 rfl)
      have E10 := Lib.hid (drop_tail (q := pk + 2 + 1 + 4 * c.codes.length + c.codes.flatten.length + c.subs.flatten.length) E9.out rfl)
      clear e8 ht
      go_wp2_with fail
      have hct := cut_ok h0.out HP16.out.be (by omega) HP16.out.rd E8.out (by have := G7.out; have := HF.out; have : sumLen c.codes = (c.codes.flatten.length : Int) := rfl; omega) hlen (by omega) (intsAt_own HO16.out (by have := HXB.out; omega))
      have HCT := Lib.hid hct
      clear hct
      ((with_reducible refine HCT.out.mono ?_))
      rintro _ X17 ⟨v17, us, rfl, hp, hr, hk⟩
      obtain ⟨a17, c17, rfl⟩ := ownsRow_slice hp.row
      have HP17 := Lib.hid (HP16.out.read hr hk)
      have hxb := HXB.out
      have hxf := HXF.out
      have HO17 := Lib.hid (hk.owns HO16.out (fun b hb e => by have := (HO16.out.lt b hb).1; omega))
      have HQ17 := Lib.hid (hk.owns HQ16.out (fun b hb e => by have := (HQ16.out.lt b hb).1; omega))
      have HT17 := Lib.hid (hk.owns HT16.out (fun b hb e => by have := (HT16.out.lt b hb).1; omega))
      have HX17 := Lib.hid (show X7.heap.size ≤ X17.heap.size from Nat.le_trans HX16.out hk.size)
      have HZ17 := Lib.hid hk.size
      have HC17 := Lib.hid hp
      clear hr hk hp HCT hxb hxf
      have hc : X17.cell? ⟨w.heap.size, 1, none⟩ = some (.slice none 0 0) := by rw [cell_of_row _ _ _ _ _ _ HP17.out.cn]; rfl
      have hf : X17.frozen? ⟨w.heap.size, 1, none⟩ = false := frozen_of_row _ _ _ _ _ HP17.out.cn
      go_wp2_with fail
      obtain ⟨X18, hX18⟩ : ∃ X, X = X17.setCell ⟨w.heap.size, 1, none⟩ (.slice a17 c.codes.length c17) := ⟨_, rfl⟩
      rw [← hX18]
      have HP18 := Lib.hid (show PS w X18 (.slice a (ser c).length cc) (pk + 2 + 1 + 4 * c.codes.length + c.codes.flatten.length) (.slice at_ c.codes.length ct) (.slice a17 c.codes.length c17) (.slice none 0 0) (.slice none 0 0) c.size by rw [hX18]; exact HP17.out.set 1 _ _ _ _ _ _ rfl)
      have HX18 := Lib.hid (show X7.heap.size ≤ X18.heap.size by rw [hX18]; simpa [World.setCell] using HX17.out)
      have HZ18 := Lib.hid (show X18.heap.size = X17.heap.size by rw [hX18]; simp [World.setCell])
      have hxb := HXB.out
      have hxf := HXF.out
      have HQ18 := Lib.hid (show X18.ownsRow _ _ _ _ _ _ by rw [hX18]; exact ownsRow_setCell_ne (a := ⟨w.heap.size, 1, none⟩) HQ17.out (not_of_ge HQ17.out (g := w.heap.size) (by have := HX16.out; have := HX1516.out; have := HX17.out; have := HX16.out; omega)) _)
      have HT18 := Lib.hid (show X18.ownsRow _ _ _ _ _ _ by rw [hX18]; exact ownsRow_setCell_ne (a := ⟨w.heap.size, 1, none⟩) HT17.out (not_of_ge HT17.out (g := w.heap.size) (by have := HX16.out; have := HX1516.out; have := HX17.out; have := HX16.out; omega)) _)
      obtain ⟨n1, n2⟩ := not_over HC17.out (g := w.heap.size) (by have := HX16.out; have := HX17.out; have := HX16.out; omega)
      have HC18 := Lib.hid (show OwnParts X18 _ _ _ _ by rw [hX18]; exact HC17.out.setCell_ne (a := ⟨w.heap.size, 1, none⟩) n1 n2 _)
      clear n1 n2
      clear hX18 hc hf hxb hxf
      have hct := cut_ok h0.out HP18.out.be (by omega) HP18.out.rd E9.out (by have := G7.out; have := HF.out; have : sumLen c.codes = (c.codes.flatten.length : Int) := rfl; omega) hlen (by omega) (intsAt_own HQ18.out (by have := HXB.out; omega))
      have HCT := Lib.hid hct
      clear hct
      ((with_reducible refine HCT.out.mono ?_))
      rintro _ X19 ⟨v19, ws, rfl, hp, hr, hk⟩
      obtain ⟨a19, c19, rfl⟩ := ownsRow_slice hp.row
      have HP19 := Lib.hid (HP18.out.read hr hk)
      have hxb := HXB.out
      have hxf := HXF.out
      have HT19 := Lib.hid (hk.owns HT18.out (fun b hb e => by have := (HT18.out.lt b hb).1; omega))
      have HC19 := Lib.hid (HC18.out.kp hk (fun b hb e => by have := HX16.out; have := HX18.out; omega))
      have HX19 := Lib.hid (show X7.heap.size ≤ X19.heap.size from Nat.le_trans HX18.out hk.size)
      have HZ19 := Lib.hid hk.size
      have HS19 := Lib.hid hp
      clear hr hk hp HCT hxb hxf
      obtain ⟨qd, hqd⟩ : ∃ q : Nat, q = (pk + 2 + 1 + 4 * c.codes.length + c.codes.flatten.length + c.subs.flatten.length) := ⟨_, rfl⟩
      have HPQ := Lib.hid (show PS w X19 (.slice a (ser c).length cc) qd (.slice at_ c.codes.length ct) (.slice a17 c.codes.length c17) (.slice none 0 0) (.slice none 0 0) c.size by rw [hqd]; exact HP19.out)
      have hql : qd + c.data.length = (ser c).length := by
        have := G7.out
        have := HF.out
        have : sumLen c.codes = (c.codes.flatten.length : Int) := rfl
        have : sumLen c.subs = (c.subs.flatten.length : Int) := rfl
        omega
      have hdd : (ser c).drop qd = c.data := by rw [hqd]; exact E10.out
      have HQL := Lib.hid hql
      obtain ⟨a', c', hsl, hpc⟩ := sub_l h0.out (q := qd) (by omega)
      rw [show (ser c).length - qd = c.data.length by omega] at hsl hpc
      rw [hdd] at hpc
      have HPC := Lib.hid hpc
      have r1 : X19.cell? ⟨w.heap.size + 1 + 1, 1, none⟩ = some (.int .i64 (qd : Int)) := HPQ.out.rd.c1
      have hq1 : (qd : Int) ≤ ((ser c).length : Int) := by omega
      clear hqd hql hdd hpc HP19
      have HP19 := HPQ
      have hc : X19.cell? ⟨w.heap.size, 2, none⟩ = some (.slice none 0 0) := by rw [cell_of_row _ _ _ _ _ _ HP19.out.cn]; rfl
      have hf : X19.frozen? ⟨w.heap.size, 2, none⟩ = false := frozen_of_row _ _ _ _ _ HP19.out.cn
      go_wp2_with fail
      obtain ⟨X20, hX20⟩ : ∃ X, X = X19.setCell ⟨w.heap.size, 2, none⟩ (.slice a19 c.subs.length c19) := ⟨_, rfl⟩
      rw [← hX20]
      have HP20 := Lib.hid (show PS w X20 (.slice a (ser c).length cc) qd (.slice at_ c.codes.length ct) (.slice a17 c.codes.length c17) (.slice a19 c.subs.length c19) (.slice none 0 0) c.size by rw [hX20]; exact HP19.out.set 2 _ _ _ _ _ _ rfl)
      have HX20 := Lib.hid (show X7.heap.size ≤ X20.heap.size by rw [hX20]; simpa [World.setCell] using HX19.out)
      have HZ20 := Lib.hid (show X20.heap.size = X19.heap.size by rw [hX20]; simp [World.setCell])
      have hxb := HXB.out
      have hxf := HXF.out
      have HT20 := Lib.hid (show X20.ownsRow _ _ _ _ _ _ by rw [hX20]; exact ownsRow_setCell_ne (a := ⟨w.heap.size, 2, none⟩) HT19.out (not_of_ge HT19.out (g := w.heap.size) (by have := HX16.out; have := HX1516.out; have := HX19.out; have := HX18.out; omega)) _)
      obtain ⟨n1, n2⟩ := not_over HC19.out (g := w.heap.size) (by have := HX16.out; have := HX19.out; have := HX18.out; have := HX18.out; omega)
      have HC20 := Lib.hid (show OwnParts X20 _ _ _ _ by rw [hX20]; exact HC19.out.setCell_ne (a := ⟨w.heap.size, 2, none⟩) n1 n2 _)
      clear n1 n2
      obtain ⟨n1, n2⟩ := not_over HS19.out (g := w.heap.size) (by have := HX16.out; have := HX19.out; have := HX18.out; have := HX18.out; omega)
      have HS20 := Lib.hid (show OwnParts X20 _ _ _ _ by rw [hX20]; exact HS19.out.setCell_ne (a := ⟨w.heap.size, 2, none⟩) n1 n2 _)
      clear n1 n2
      clear hX20 hc hf hxb hxf
      refine (clone_bytes (HPC.out.below HP20.out.be (Nat.le_refl _)) (by have := HSM.out.data; omega)).mono ?_
      rintro _ X21 ⟨a21, c21, rfl, hd21, hb21⟩
      have HP21 := Lib.hid (HP20.out.next hb21)
      have HX21 := Lib.hid (show X7.heap.size ≤ X21.heap.size from Nat.le_trans HX20.out hb21.size)
      have HT21 := Lib.hid (ownsRow_below HT20.out hb21 (Nat.le_refl _))
      have HC21 := Lib.hid (HC20.out.below hb21 (Nat.le_refl _))
      have HS21 := Lib.hid (HS20.out.below hb21 (Nat.le_refl _))
      have HD21 := Lib.hid hd21
      have HZ21 := Lib.hid hb21.size
      clear hd21 hb21 r1 hq1 hsl
      have hc : X21.cell? ⟨w.heap.size, 3, none⟩ = some (.slice none 0 0) := by rw [cell_of_row _ _ _ _ _ _ HP21.out.cn]; rfl
      have hf : X21.frozen? ⟨w.heap.size, 3, none⟩ = false := frozen_of_row _ _ _ _ _ HP21.out.cn
      go_wp2_with fail
      obtain ⟨X22, hX22⟩ : ∃ X, X = X21.setCell ⟨w.heap.size, 3, none⟩ (.slice a21 c.data.length c21) := ⟨_, rfl⟩
      rw [← hX22]
      have HP22 := Lib.hid (show PS w X22 (.slice a (ser c).length cc) qd (.slice at_ c.codes.length ct) (.slice a17 c.codes.length c17) (.slice a19 c.subs.length c19) (.slice a21 c.data.length c21) c.size by rw [hX22]; exact HP21.out.set 3 _ _ _ _ _ _ rfl)
      have HX22 := Lib.hid (show X7.heap.size ≤ X22.heap.size by rw [hX22]; simpa [World.setCell] using HX21.out)
      have HZ22 := Lib.hid (show X22.heap.size = X21.heap.size by rw [hX22]; simp [World.setCell])
      have hxb := HXB.out
      have hxf := HXF.out
      have HT22 := Lib.hid (show X22.ownsRow _ _ _ _ _ _ by rw [hX22]; exact ownsRow_setCell_ne (a := ⟨w.heap.size, 3, none⟩) HT21.out (not_of_ge HT21.out (g := w.heap.size) (by have := HX16.out; have := HX1516.out; have := HX21.out; have := HX20.out; omega)) _)
      have HD22 := Lib.hid (show X22.ownsRow _ _ _ _ _ _ by rw [hX22]; exact ownsRow_setCell_ne (a := ⟨w.heap.size, 3, none⟩) HD21.out (not_of_ge HD21.out (g := w.heap.size) (by have := HX16.out; have := HX1516.out; have := HX21.out; have := HX20.out; omega)) _)
      obtain ⟨n1, n2⟩ := not_over HC21.out (g := w.heap.size) (by have := HX16.out; have := HX21.out; have := HX20.out; have := HX18.out; omega)
      have HC22 := Lib.hid (show OwnParts X22 _ _ _ _ by rw [hX22]; exact HC21.out.setCell_ne (a := ⟨w.heap.size, 3, none⟩) n1 n2 _)
      clear n1 n2
      obtain ⟨n1, n2⟩ := not_over HS21.out (g := w.heap.size) (by have := HX16.out; have := HX21.out; have := HX20.out; have := HX18.out; omega)
      have HS22 := Lib.hid (show OwnParts X22 _ _ _ _ by rw [hX22]; exact HS21.out.setCell_ne (a := ⟨w.heap.size, 3, none⟩) n1 n2 _)
      clear n1 n2
      clear hX22 hc hf hxb hxf
      have k0 : X22.cell? ⟨w.heap.size, 0, none⟩ = some (.slice at_ c.codes.length ct) := by rw [cell_of_row _ _ _ _ _ _ HP22.out.cn]; rfl
      have k1 : X22.cell? ⟨w.heap.size, 1, none⟩ = some (.slice a17 c.codes.length c17) := by rw [cell_of_row _ _ _ _ _ _ HP22.out.cn]; rfl
      have k2 : X22.cell? ⟨w.heap.size, 2, none⟩ = some (.slice a19 c.subs.length c19) := by rw [cell_of_row _ _ _ _ _ _ HP22.out.cn]; rfl
      have k3 : X22.cell? ⟨w.heap.size, 3, none⟩ = some (.slice a21 c.data.length c21) := by rw [cell_of_row _ _ _ _ _ _ HP22.out.cn]; rfl
      have k4 : X22.cell? ⟨w.heap.size, 4, none⟩ = some (.int .i64 c.size) := by rw [cell_of_row _ _ _ _ _ _ HP22.out.cn]; rfl
      have n0 : X22.cell? ⟨w.heap.size + 1, 0, none⟩ = some (.int .i64 0) := by rw [cell_of_row _ _ _ _ _ _ HP22.out.no]; rfl
      have n1 : X22.cell? ⟨w.heap.size + 1, 1, none⟩ = some (.slice none 0 0) := by rw [cell_of_row _ _ _ _ _ _ HP22.out.no]; rfl
      have n2 : X22.cell? ⟨w.heap.size + 1, 2, none⟩ = some (.int .i64 0) := by rw [cell_of_row _ _ _ _ _ _ HP22.out.no]; rfl
      have n3 : X22.cell? ⟨w.heap.size + 1, 3, none⟩ = some (.int .i64 0) := by rw [cell_of_row _ _ _ _ _ _ HP22.out.no]; rfl
      have kf : ∀ j, X22.frozen? ⟨w.heap.size, j, none⟩ = false := fun j => frozen_of_row _ _ _ _ _ HP22.out.cn
      have nf : ∀ j, X22.frozen? ⟨w.heap.size + 1, j, none⟩ = false := fun j => frozen_of_row _ _ _ _ _ HP22.out.no
      go_region
      rw [setCell_self k0, setCell_self k1, setCell_self k2, setCell_self k3, setCell_self k4, setCell_self n0, setCell_self n1, setCell_self n2, setCell_self n3]
      clear kf nf
      go_wp2_with fail
      refine leaves_cons (f := 30) (args := #[.pointer (some ⟨w.heap.size, 0, none⟩), .pointer (some ⟨w.heap.size + 1, 0, none⟩)]) (by simp) (by simp [go_sem]) ?_
      refine (catch_idle ⟨w.heap.size, 0, none⟩ ⟨w.heap.size + 1, 0, none⟩ _).mono ?_
      rintro e u' w'' ⟨rfl, rfl, rfl⟩
      refine ⟨.tuple #[.agg #[(.slice at_ c.codes.length ct), (.slice a17 c.codes.length c17), (.slice a19 c.subs.length c19), (.slice a21 c.data.length c21), .int .i64 c.size], .agg #[.int .i64 0, .slice none 0 0, .int .i64 0, .int .i64 0]], by simp [results, Try.results16, go_sem, k0, k1, k2, k3, k4, n0, n1, n2, n3], ?_⟩
      have q0 := HX1516.out
      have q1 := HZ17.out
      have q2 := HZ18.out
      have q3 := HZ19.out
      have q4 := HZ20.out
      have q5 := HZ21.out
      have q6 := HZ22.out
      have q7 := HXF.out
      have t1 : X22.drew.ownsRow X15.heap.size 53 3 (.slice at_ c.codes.length ct) c.ts.length (tyVals c.ts) := by rw [HM.out.types]; exact HT22.out
      have t2 := Under.of HT16.out (Nat.le_refl _)
      have t3 := HC22.out.kp ((Kp.refl (fun _ => False) _).drew) (fun _ _ h => h)
      have t4 := HS22.out.kp ((Kp.refl (fun _ => False) _).drew) (fun _ _ h => h)
      unfold ParsePost
      rw [HM.out.types]
      refine ⟨at_, ct, _, us, _, ws, a21, c21, X16.heap.size, X18.heap.size, X20.heap.size, rfl, ⟨t1.mono (by omega), t2, t3, HC18.out.under (Nat.le_refl _), t4, HS20.out.under (Nat.le_refl _), by omega, by omega, by omega, by show X20.heap.size ≤ X22.heap.size; omega⟩, HD22.out, HP22.out.be.drew⟩

    | false =>
      have g8 : (pk : Int) + 2 + 1 + F + sumLen c.codes + sumLen c.subs + c.size ≤ ((ser c).length : Int) := HOR.out.resolve_left (by decide)
      go_wp2_with fail
      go_wp2_with fail
      refine (ask_ok _ _ _ _).mono ?_
      rintro _ X15 ⟨rfl, rfl⟩
      have hty := types_ok h0.out HP15.out.be (by omega) HP15.out.rd (by rw [← HR10.out]; exact E7.out) (by have := G7.out; omega) hlen (by have := HM.out.types; omega) HM.out.tyOk (by omega) (Nat.le_refl _) HP15.out.cn
      rw [HM.out.types] at hty
      have HTY := Lib.hid hty
      clear hty r0 r1 rz k4
      go_wp2_with fail
      refine HTY.out.mono ?_
      rintro _ X16 ⟨vt, rfl, ht, hr, hcn, hk⟩
      have HP16 := Lib.hid (show PS w X16 (.slice a (ser c).length cc) (pk + 2 + 1 + 4 * c.codes.length) vt (.slice none 0 0) (.slice none 0 0) (.slice none 0 0) c.size from ⟨hr, hcn, hk.heap HP15.out.no (fun e => by rcases e with e | e <;> omega), HP15.out.be.trans (hk.below HP15.out.be.size (fun b _ e => by rcases e with e | e <;> omega))⟩)
      have HO16 := Lib.hid (hk.owns HO15.out (fun b hb e => by have := (HO15.out.lt b hb).1; have := HXB.out; rcases e with e | e <;> omega))
      have HQ16 := Lib.hid (hk.owns HQ15.out (fun b hb e => by have := (HQ15.out.lt b hb).1; have := HXB.out; rcases e with e | e <;> omega))
      have HX16 := Lib.hid (show X7.heap.size ≤ X16.heap.size from Nat.le_trans HX15.out hk.size)
      have HX1516 := Lib.hid hk.size
      have HXF := Lib.hid HP15.out.rd.lt
      obtain ⟨at_, ct, rfl⟩ := ownsRow_slice ht
      have HT16 := Lib.hid ht
      clear hr hk hcn
      have e8 := drop_tail (q := pk + 2 + 1 + 4 * c.codes.length) (E7.out.trans HR10.out) (by rw [types4_len, HM.out.types])
      have E8 := Lib.hid e8
      have E9 := Lib.hid (drop_tail (q := pk + 2 + 1 + 4 * c.codes.length + c.codes.flatten.length) e8 rfl)
      have E10 := Lib.hid (drop_tail (q := pk + 2 + 1 + 4 * c.codes.length + c.codes.flatten.length + c.subs.flatten.length) E9.out rfl)
      clear e8 ht
      go_wp2_with fail
      have hct := cut_ok h0.out HP16.out.be (by omega) HP16.out.rd E8.out (by have := G7.out; have := HF.out; have : sumLen c.codes = (c.codes.flatten.length : Int) := rfl; omega) hlen (by omega) (intsAt_own HO16.out (by have := HXB.out; omega))
      have HCT := Lib.hid hct
      clear hct
      ((with_reducible refine HCT.out.mono ?_))
      rintro _ X17 ⟨v17, us, rfl, hp, hr, hk⟩
      obtain ⟨a17, c17, rfl⟩ := ownsRow_slice hp.row
      have HP17 := Lib.hid (HP16.out.read hr hk)
      have hxb := HXB.out
      have hxf := HXF.out
      have HO17 := Lib.hid (hk.owns HO16.out (fun b hb e => by have := (HO16.out.lt b hb).1; omega))
      have HQ17 := Lib.hid (hk.owns HQ16.out (fun b hb e => by have := (HQ16.out.lt b hb).1; omega))
      have HT17 := Lib.hid (hk.owns HT16.out (fun b hb e => by have := (HT16.out.lt b hb).1; omega))
      have HX17 := Lib.hid (show X7.heap.size ≤ X17.heap.size from Nat.le_trans HX16.out hk.size)
      have HZ17 := Lib.hid hk.size
      have HC17 := Lib.hid hp
      clear hr hk hp HCT hxb hxf
      have hc : X17.cell? ⟨w.heap.size, 1, none⟩ = some (.slice none 0 0) := by rw [cell_of_row _ _ _ _ _ _ HP17.out.cn]; rfl
      have hf : X17.frozen? ⟨w.heap.size, 1, none⟩ = false := frozen_of_row _ _ _ _ _ HP17.out.cn
      go_wp2_with fail
      obtain ⟨X18, hX18⟩ : ∃ X, X = X17.setCell ⟨w.heap.size, 1, none⟩ (.slice a17 c.codes.length c17) := ⟨_, rfl⟩
      rw [← hX18]
      have HP18 := Lib.hid (show PS w X18 (.slice a (ser c).length cc) (pk + 2 + 1 + 4 * c.codes.length + c.codes.flatten.length) (.slice at_ c.codes.length ct) (.slice a17 c.codes.length c17) (.slice none 0 0) (.slice none 0 0) c.size by rw [hX18]; exact HP17.out.set 1 _ _ _ _ _ _ rfl)
      have HX18 := Lib.hid (show X7.heap.size ≤ X18.heap.size by rw [hX18]; simpa [World.setCell] using HX17.out)
      have HZ18 := Lib.hid (show X18.heap.size = X17.heap.size by rw [hX18]; simp [World.setCell])
      have hxb := HXB.out
      have hxf := HXF.out
      have HQ18 := Lib.hid (show X18.ownsRow _ _ _ _ _ _ by rw [hX18]; exact ownsRow_setCell_ne (a := ⟨w.heap.size, 1, none⟩) HQ17.out (not_of_ge HQ17.out (g := w.heap.size) (by have := HX16.out; have := HX1516.out; have := HX17.out; have := HX16.out; omega)) _)
      have HT18 := Lib.hid (show X18.ownsRow _ _ _ _ _ _ by rw [hX18]; exact ownsRow_setCell_ne (a := ⟨w.heap.size, 1, none⟩) HT17.out (not_of_ge HT17.out (g := w.heap.size) (by have := HX16.out; have := HX1516.out; have := HX17.out; have := HX16.out; omega)) _)
      obtain ⟨n1, n2⟩ := not_over HC17.out (g := w.heap.size) (by have := HX16.out; have := HX17.out; have := HX16.out; omega)
      have HC18 := Lib.hid (show OwnParts X18 _ _ _ _ by rw [hX18]; exact HC17.out.setCell_ne (a := ⟨w.heap.size, 1, none⟩) n1 n2 _)
      clear n1 n2
      clear hX18 hc hf hxb hxf
      have hct := cut_ok h0.out HP18.out.be (by omega) HP18.out.rd E9.out (by have := G7.out; have := HF.out; have : sumLen c.codes = (c.codes.flatten.length : Int) := rfl; omega) hlen (by omega) (intsAt_own HQ18.out (by have := HXB.out; omega))
      have HCT := Lib.hid hct
      clear hct
      ((with_reducible refine HCT.out.mono ?_))
      rintro _ X19 ⟨v19, ws, rfl, hp, hr, hk⟩
      obtain ⟨a19, c19, rfl⟩ := ownsRow_slice hp.row
      have HP19 := Lib.hid (HP18.out.read hr hk)
      have hxb := HXB.out
      have hxf := HXF.out
      have HT19 := Lib.hid (hk.owns HT18.out (fun b hb e => by have := (HT18.out.lt b hb).1; omega))
      have HC19 := Lib.hid (HC18.out.kp hk (fun b hb e => by have := HX16.out; have := HX18.out; omega))
      have HX19 := Lib.hid (show X7.heap.size ≤ X19.heap.size from Nat.le_trans HX18.out hk.size)
      have HZ19 := Lib.hid hk.size
      have HS19 := Lib.hid hp
      clear hr hk hp HCT hxb hxf
      obtain ⟨qd, hqd⟩ : ∃ q : Nat, q = (pk + 2 + 1 + 4 * c.codes.length + c.codes.flatten.length + c.subs.flatten.length) := ⟨_, rfl⟩
      have HPQ := Lib.hid (show PS w X19 (.slice a (ser c).length cc) qd (.slice at_ c.codes.length ct) (.slice a17 c.codes.length c17) (.slice none 0 0) (.slice none 0 0) c.size by rw [hqd]; exact HP19.out)
      have hql : qd + c.data.length = (ser c).length := by
        have := G7.out
        have := HF.out
        have : sumLen c.codes = (c.codes.flatten.length : Int) := rfl
        have : sumLen c.subs = (c.subs.flatten.length : Int) := rfl
        omega
      have hdd : (ser c).drop qd = c.data := by rw [hqd]; exact E10.out
      have HQL := Lib.hid hql
      obtain ⟨a', c', hsl, hpc⟩ := sub_l h0.out (q := qd) (by omega)
      rw [show (ser c).length - qd = c.data.length by omega] at hsl hpc
      rw [hdd] at hpc
      have HPC := Lib.hid hpc
      have r1 : X19.cell? ⟨w.heap.size + 1 + 1, 1, none⟩ = some (.int .i64 (qd : Int)) := HPQ.out.rd.c1
      have hq1 : (qd : Int) ≤ ((ser c).length : Int) := by omega
      clear hqd hql hdd hpc HP19
      have HP19 := HPQ
      have hc : X19.cell? ⟨w.heap.size, 2, none⟩ = some (.slice none 0 0) := by rw [cell_of_row _ _ _ _ _ _ HP19.out.cn]; rfl
      have hf : X19.frozen? ⟨w.heap.size, 2, none⟩ = false := frozen_of_row _ _ _ _ _ HP19.out.cn
      go_wp2_with fail
      obtain ⟨X20, hX20⟩ : ∃ X, X = X19.setCell ⟨w.heap.size, 2, none⟩ (.slice a19 c.subs.length c19) := ⟨_, rfl⟩
      rw [← hX20]
      have HP20 := Lib.hid (show PS w X20 (.slice a (ser c).length cc) qd (.slice at_ c.codes.length ct) (.slice a17 c.codes.length c17) (.slice a19 c.subs.length c19) (.slice none 0 0) c.size by rw [hX20]; exact HP19.out.set 2 _ _ _ _ _ _ rfl)
      have HX20 := Lib.hid (show X7.heap.size ≤ X20.heap.size by rw [hX20]; simpa [World.setCell] using HX19.out)
      have HZ20 := Lib.hid (show X20.heap.size = X19.heap.size by rw [hX20]; simp [World.setCell])
      have hxb := HXB.out
      have hxf := HXF.out
      have HT20 := Lib.hid (show X20.ownsRow _ _ _ _ _ _ by rw [hX20]; exact ownsRow_setCell_ne (a := ⟨w.heap.size, 2, none⟩) HT19.out (not_of_ge HT19.out (g := w.heap.size) (by have := HX16.out; have := HX1516.out; have := HX19.out; have := HX18.out; omega)) _)
      obtain ⟨n1, n2⟩ := not_over HC19.out (g := w.heap.size) (by have := HX16.out; have := HX19.out; have := HX18.out; have := HX18.out; omega)
      have HC20 := Lib.hid (show OwnParts X20 _ _ _ _ by rw [hX20]; exact HC19.out.setCell_ne (a := ⟨w.heap.size, 2, none⟩) n1 n2 _)
      clear n1 n2
      obtain ⟨n1, n2⟩ := not_over HS19.out (g := w.heap.size) (by have := HX16.out; have := HX19.out; have := HX18.out; have := HX18.out; omega)
      have HS20 := Lib.hid (show OwnParts X20 _ _ _ _ by rw [hX20]; exact HS19.out.setCell_ne (a := ⟨w.heap.size, 2, none⟩) n1 n2 _)
      clear n1 n2
      clear hX20 hc hf hxb hxf
      refine (clone_bytes (HPC.out.below HP20.out.be (Nat.le_refl _)) (by have := HSM.out.data; omega)).mono ?_
      rintro _ X21 ⟨a21, c21, rfl, hd21, hb21⟩
      have HP21 := Lib.hid (HP20.out.next hb21)
      have HX21 := Lib.hid (show X7.heap.size ≤ X21.heap.size from Nat.le_trans HX20.out hb21.size)
      have HT21 := Lib.hid (ownsRow_below HT20.out hb21 (Nat.le_refl _))
      have HC21 := Lib.hid (HC20.out.below hb21 (Nat.le_refl _))
      have HS21 := Lib.hid (HS20.out.below hb21 (Nat.le_refl _))
      have HD21 := Lib.hid hd21
      have HZ21 := Lib.hid hb21.size
      clear hd21 hb21 r1 hq1 hsl
      have hc : X21.cell? ⟨w.heap.size, 3, none⟩ = some (.slice none 0 0) := by rw [cell_of_row _ _ _ _ _ _ HP21.out.cn]; rfl
      have hf : X21.frozen? ⟨w.heap.size, 3, none⟩ = false := frozen_of_row _ _ _ _ _ HP21.out.cn
      go_wp2_with fail
      obtain ⟨X22, hX22⟩ : ∃ X, X = X21.setCell ⟨w.heap.size, 3, none⟩ (.slice a21 c.data.length c21) := ⟨_, rfl⟩
      rw [← hX22]
      have HP22 := Lib.hid (show PS w X22 (.slice a (ser c).length cc) qd (.slice at_ c.codes.length ct) (.slice a17 c.codes.length c17) (.slice a19 c.subs.length c19) (.slice a21 c.data.length c21) c.size by rw [hX22]; exact HP21.out.set 3 _ _ _ _ _ _ rfl)
      have HX22 := Lib.hid (show X7.heap.size ≤ X22.heap.size by rw [hX22]; simpa [World.setCell] using HX21.out)
      have HZ22 := Lib.hid (show X22.heap.size = X21.heap.size by rw [hX22]; simp [World.setCell])
      have hxb := HXB.out
      have hxf := HXF.out
      have HT22 := Lib.hid (show X22.ownsRow _ _ _ _ _ _ by rw [hX22]; exact ownsRow_setCell_ne (a := ⟨w.heap.size, 3, none⟩) HT21.out (not_of_ge HT21.out (g := w.heap.size) (by have := HX16.out; have := HX1516.out; have := HX21.out; have := HX20.out; omega)) _)
      have HD22 := Lib.hid (show X22.ownsRow _ _ _ _ _ _ by rw [hX22]; exact ownsRow_setCell_ne (a := ⟨w.heap.size, 3, none⟩) HD21.out (not_of_ge HD21.out (g := w.heap.size) (by have := HX16.out; have := HX1516.out; have := HX21.out; have := HX20.out; omega)) _)
      obtain ⟨n1, n2⟩ := not_over HC21.out (g := w.heap.size) (by have := HX16.out; have := HX21.out; have := HX20.out; have := HX18.out; omega)
      have HC22 := Lib.hid (show OwnParts X22 _ _ _ _ by rw [hX22]; exact HC21.out.setCell_ne (a := ⟨w.heap.size, 3, none⟩) n1 n2 _)
      clear n1 n2
      obtain ⟨n1, n2⟩ := not_over HS21.out (g := w.heap.size) (by have := HX16.out; have := HX21.out; have := HX20.out; have := HX18.out; omega)
      have HS22 := Lib.hid (show OwnParts X22 _ _ _ _ by rw [hX22]; exact HS21.out.setCell_ne (a := ⟨w.heap.size, 3, none⟩) n1 n2 _)
      clear n1 n2
      clear hX22 hc hf hxb hxf
      have k0 : X22.cell? ⟨w.heap.size, 0, none⟩ = some (.slice at_ c.codes.length ct) := by rw [cell_of_row _ _ _ _ _ _ HP22.out.cn]; rfl
      have k1 : X22.cell? ⟨w.heap.size, 1, none⟩ = some (.slice a17 c.codes.length c17) := by rw [cell_of_row _ _ _ _ _ _ HP22.out.cn]; rfl
      have k2 : X22.cell? ⟨w.heap.size, 2, none⟩ = some (.slice a19 c.subs.length c19) := by rw [cell_of_row _ _ _ _ _ _ HP22.out.cn]; rfl
      have k3 : X22.cell? ⟨w.heap.size, 3, none⟩ = some (.slice a21 c.data.length c21) := by rw [cell_of_row _ _ _ _ _ _ HP22.out.cn]; rfl
      have k4 : X22.cell? ⟨w.heap.size, 4, none⟩ = some (.int .i64 c.size) := by rw [cell_of_row _ _ _ _ _ _ HP22.out.cn]; rfl
      have n0 : X22.cell? ⟨w.heap.size + 1, 0, none⟩ = some (.int .i64 0) := by rw [cell_of_row _ _ _ _ _ _ HP22.out.no]; rfl
      have n1 : X22.cell? ⟨w.heap.size + 1, 1, none⟩ = some (.slice none 0 0) := by rw [cell_of_row _ _ _ _ _ _ HP22.out.no]; rfl
      have n2 : X22.cell? ⟨w.heap.size + 1, 2, none⟩ = some (.int .i64 0) := by rw [cell_of_row _ _ _ _ _ _ HP22.out.no]; rfl
      have n3 : X22.cell? ⟨w.heap.size + 1, 3, none⟩ = some (.int .i64 0) := by rw [cell_of_row _ _ _ _ _ _ HP22.out.no]; rfl
      have kf : ∀ j, X22.frozen? ⟨w.heap.size, j, none⟩ = false := fun j => frozen_of_row _ _ _ _ _ HP22.out.cn
      have nf : ∀ j, X22.frozen? ⟨w.heap.size + 1, j, none⟩ = false := fun j => frozen_of_row _ _ _ _ _ HP22.out.no
      go_region
      rw [setCell_self k0, setCell_self k1, setCell_self k2, setCell_self k3, setCell_self k4, setCell_self n0, setCell_self n1, setCell_self n2, setCell_self n3]
      clear kf nf
      go_wp2_with fail
      refine leaves_cons (f := 30) (args := #[.pointer (some ⟨w.heap.size, 0, none⟩), .pointer (some ⟨w.heap.size + 1, 0, none⟩)]) (by simp) (by simp [go_sem]) ?_
      refine (catch_idle ⟨w.heap.size, 0, none⟩ ⟨w.heap.size + 1, 0, none⟩ _).mono ?_
      rintro e u' w'' ⟨rfl, rfl, rfl⟩
      refine ⟨.tuple #[.agg #[(.slice at_ c.codes.length ct), (.slice a17 c.codes.length c17), (.slice a19 c.subs.length c19), (.slice a21 c.data.length c21), .int .i64 c.size], .agg #[.int .i64 0, .slice none 0 0, .int .i64 0, .int .i64 0]], by simp [results, Try.results16, go_sem, k0, k1, k2, k3, k4, n0, n1, n2, n3], ?_⟩
      have q0 := HX1516.out
      have q1 := HZ17.out
      have q2 := HZ18.out
      have q3 := HZ19.out
      have q4 := HZ20.out
      have q5 := HZ21.out
      have q6 := HZ22.out
      have q7 := HXF.out
      have t1 : X22.drew.ownsRow X15.heap.size 53 3 (.slice at_ c.codes.length ct) c.ts.length (tyVals c.ts) := by rw [HM.out.types]; exact HT22.out
      have t2 := Under.of HT16.out (Nat.le_refl _)
      have t3 := HC22.out.kp ((Kp.refl (fun _ => False) _).drew) (fun _ _ h => h)
      have t4 := HS22.out.kp ((Kp.refl (fun _ => False) _).drew) (fun _ _ h => h)
      unfold ParsePost
      rw [HM.out.types]
      refine ⟨at_, ct, _, us, _, ws, a21, c21, X16.heap.size, X18.heap.size, X20.heap.size, rfl, ⟨t1.mono (by omega), t2, t3, HC18.out.under (Nat.le_refl _), t4, HS20.out.under (Nat.le_refl _), by omega, by omega, by omega, by show X20.heap.size ≤ X22.heap.size; omega⟩, HD22.out, HP22.out.be.drew⟩


  · have hss : ser2 c = [] := if_neg hsub
    have dk := drop_tail (q := 9 + 2 * c.codes.length) D9.out (by rw [lens2_len])
    rw [hss, List.nil_append] at dk
    have e4 := drop_tail (q := 9 + 2 * c.codes.length + 1) dk rfl
    have DK := Lib.hid dk
    have E4 := Lib.hid e4
    clear hss dk e4
    go_wp2_with fail
    refine (next1_ok h0.out (x := 255) HP8.out.be (by omega) HP8.out.rd DK.out (by omega) (by omega) hlen).mono ?_
    rintro _ X12 ⟨rfl, hr, hk⟩
    have HP12 := Lib.hid (HP8.out.read hr hk)
    have HO12 := Lib.hid (hk.owns HO8.out (fun b hb e => by have := (HO8.out.lt b hb).1; have := HXB.out; omega))
    have HX12 := Lib.hid (show X7.heap.size ≤ X12.heap.size from Nat.le_trans HX8.out hk.size)
    clear hr hk
    go_wp2_with fail
    refine (ask_ok _ _ _ _).mono ?_
    rintro _ X12 ⟨rfl, rfl⟩
    go_wp2_with fail
    have HS0 := Lib.hid (show c.subs = [] from List.eq_nil_of_length_eq_zero (by omega))
    obtain ⟨pk, hpk⟩ : ∃ pk : Nat, pk = 9 + 2 * c.codes.length + 1 := ⟨_, rfl⟩
    have HPK := Lib.hid (show PS w X12 (.slice a (ser c).length cc) pk (.slice none 0 0) (.slice none 0 0) (.slice none 0 0) (.slice none 0 0) 0 by rw [hpk]; exact HP12.out)
    have e5 : (ser c).drop pk = be2 c.size ++ ([0] ++ R10) := by rw [hpk, ← HR7.out]; exact E4.out
    have e6 := drop_tail (q := pk + 2) e5 rfl
    have e7 := drop_tail (q := pk + 2 + 1) e6 rfl
    have E5 := Lib.hid e5
    have E6 := Lib.hid e6
    have E7 := Lib.hid e7
    clear hpk e5 e6 e7
    refine (next2_ok h0.out (x := c.size) HPK.out.be (by omega) HPK.out.rd E5.out z0 z1 hlen).mono ?_
    rintro _ X13 ⟨rfl, hr, hk⟩
    have HP13 := Lib.hid (HPK.out.read hr hk)
    have HO13 := Lib.hid (hk.owns HO12.out (fun b hb e => by have := (HO12.out.lt b hb).1; have := HXB.out; omega))
    have HX13 := Lib.hid (show X7.heap.size ≤ X13.heap.size from Nat.le_trans HX12.out hk.size)
    clear hr hk
    have hc4 : X13.cell? ⟨w.heap.size, 4, none⟩ = some (.int .i64 0) := by rw [cell_of_row _ _ _ _ _ _ HP13.out.cn]; rfl
    have hf4 : X13.frozen? ⟨w.heap.size, 4, none⟩ = false := frozen_of_row _ _ _ _ _ HP13.out.cn
    go_wp2_with fail
    obtain ⟨X14, hX14⟩ : ∃ X, X = X13.setCell ⟨w.heap.size, 4, none⟩ (.int .i64 c.size) := ⟨_, rfl⟩
    rw [← hX14]
    have HP14 := Lib.hid (show PS w X14 (.slice a (ser c).length cc) (pk + 2) (.slice none 0 0) (.slice none 0 0) (.slice none 0 0) (.slice none 0 0) c.size by rw [hX14]; exact HP13.out.set 4 _ _ _ _ _ _ rfl)
    have HO14 := Lib.hid (show X14.ownsRow X7.heap.size 3 1 _ _ _ by rw [hX14]; exact ownsRow_setCell_ne (a := ⟨w.heap.size, 4, none⟩) HO13.out (fun e => by have h1 : X7.heap.size ≤ w.heap.size := (HO13.out.lt _ e).1; have := HXB.out; omega) _)
    have HX14 := Lib.hid (show X7.heap.size ≤ X14.heap.size by rw [hX14]; simpa [World.setCell] using HX13.out)
    clear hX14 hc4 hf4
    refine (want_ok _ h0.out (x := 0) (by omega) (by omega) HP14.out.be (by omega) HP14.out.rd E6.out hlen).mono ?_
    rintro _ X15 ⟨rfl, hr, hk⟩
    have HP15 := Lib.hid (HP14.out.read hr hk)
    have HO15 := Lib.hid (hk.owns HO14.out (fun b hb e => by have := (HO14.out.lt b hb).1; have := HXB.out; omega))
    have HX15 := Lib.hid (show X7.heap.size ≤ X15.heap.size from Nat.le_trans HX14.out hk.size)
    clear hr hk
    obtain ⟨r0, r1, rz⟩ := HP15.out.rd
    have k4 : X15.cell? ⟨w.heap.size, 4, none⟩ = some (.int .i64 c.size) := by rw [cell_of_row _ _ _ _ _ _ HP15.out.cn]; rfl
    have hl10 : (ser c).length = pk + 2 + 1 + R10.length := by
      have := drop_len E7.out (by rw [HR10.out]; intro h; have := congrArg List.length h; simp [types4_len] at this; have := HM.out.types; omega)
      omega
    have hR10 : R10.length = 4 * c.codes.length + c.codes.flatten.length + c.subs.flatten.length + c.data.length := by
      rw [HR10.out]; simp only [List.length_append, types4_len]; have := HM.out.types; omega
    have hsc : sumLen c.codes = (c.codes.flatten.length : Int) := rfl
    have hsd : sumLen c.subs = (c.subs.flatten.length : Int) := rfl
    have hF := HF.out
    have hs00 : c.subs.flatten.length = 0 := by rw [HS0.out]; rfl
    have g0 : (0 : Int) ≤ sumLen c.codes := by omega
    have g1 : sumLen c.codes ≤ 1000000000 := by omega
    have g2 : (0 : Int) ≤ sumLen c.subs := by omega
    have g3 : sumLen c.subs ≤ 1000000000 := by omega
    have g4 : (pk : Int) ≤ 1000000000 := by omega
    have g5 : (pk : Int) + 2 + 1 + F + sumLen c.codes ≤ ((ser c).length : Int) := by omega
    have g6 : ((ser c).length : Int) ≤ (pk : Int) + 2 + 1 + F + sumLen c.codes + c.size := by have := HM.out.data; omega
    have G7 := Lib.hid (show ((ser c).length : Int) = (pk : Int) + 2 + 1 + F + sumLen c.codes + (c.data.length : Int) by omega)
    clear hl10 hR10 hsc hsd hF
    clear hs00
    have hor : op = true ∨ (pk : Int) + 2 + 1 + F + sumLen c.codes + c.size ≤ ((ser c).length : Int) := hop.elim .inl (fun h => .inr (by have := G7.out; omega))
    have HOR := Lib.hid hor
    clear hor
    cases op with
    | true =>
      go_wp2_with fail
      go_wp2_with fail
      refine (ask_ok _ _ _ _).mono ?_
      rintro _ X15 ⟨rfl, rfl⟩
      have hty := types_ok h0.out HP15.out.be (by omega) HP15.out.rd (by rw [← HR10.out]; exact E7.out) (by have := G7.out; omega) hlen (by have := HM.out.types; omega) HM.out.tyOk (by omega) (Nat.le_refl _) HP15.out.cn
      rw [HM.out.types] at hty
      have HTY := Lib.hid hty
      clear hty r0 r1 rz k4
      go_wp2_with fail
      refine HTY.out.mono ?_
      rintro _ X16 ⟨vt, rfl, ht, hr, hcn, hk⟩
      have HP16 := Lib.hid (show PS w X16 (.slice a (ser c).length cc) (pk + 2 + 1 + 4 * c.codes.length) vt (.slice none 0 0) (.slice none 0 0) (.slice none 0 0) c.size from ⟨hr, hcn, hk.heap HP15.out.no (fun e => by rcases e with e | e <;> omega), HP15.out.be.trans (hk.below HP15.out.be.size (fun b _ e => by rcases e with e | e <;> omega))⟩)
      have HO16 := Lib.hid (hk.owns HO15.out (fun b hb e => by have := (HO15.out.lt b hb).1; have := HXB.out; rcases e with e | e <;> omega))
      have HX16 := Lib.hid (show X7.heap.size ≤ X16.heap.size from Nat.le_trans HX15.out hk.size)
      have HX1516 := Lib.hid hk.size
      have HXF := Lib.hid HP15.out.rd.lt
      obtain ⟨at_, ct, rfl⟩ := ownsRow_slice ht
      have HT16 := Lib.hid ht
      clear hr hk hcn
      have e8 := drop_tail (q := pk + 2 + 1 + 4 * c.codes.length) (E7.out.trans HR10.out) (by rw [types4_len, HM.out.types])
      have E8 := Lib.hid e8
      have E9 := Lib.hid (drop_tail (q := pk + 2 + 1 + 4 * c.codes.length + c.codes.flatten.length) e8 rfl)
      have E10 := Lib.hid (drop_tail (q := pk + 2 + 1 + 4 * c.codes.length + c.codes.flatten.length + c.subs.flatten.length) E9.out rfl)
      clear e8 ht
      go_wp2_with fail
      have hct := cut_ok h0.out HP16.out.be (by omega) HP16.out.rd E8.out (by have := G7.out; have := HF.out; have : sumLen c.codes = (c.codes.flatten.length : Int) := rfl; omega) hlen (by omega) (intsAt_own HO16.out (by have := HXB.out; omega))
      have HCT := Lib.hid hct
      clear hct
      ((with_reducible refine HCT.out.mono ?_))
      rintro _ X17 ⟨v17, us, rfl, hp, hr, hk⟩
      obtain ⟨a17, c17, rfl⟩ := ownsRow_slice hp.row
      have HP17 := Lib.hid (HP16.out.read hr hk)
      have hxb := HXB.out
      have hxf := HXF.out
      have HO17 := Lib.hid (hk.owns HO16.out (fun b hb e => by have := (HO16.out.lt b hb).1; omega))
      have HT17 := Lib.hid (hk.owns HT16.out (fun b hb e => by have := (HT16.out.lt b hb).1; omega))
      have HX17 := Lib.hid (show X7.heap.size ≤ X17.heap.size from Nat.le_trans HX16.out hk.size)
      have HZ17 := Lib.hid hk.size
      have HC17 := Lib.hid hp
      clear hr hk hp HCT hxb hxf
      have hc : X17.cell? ⟨w.heap.size, 1, none⟩ = some (.slice none 0 0) := by rw [cell_of_row _ _ _ _ _ _ HP17.out.cn]; rfl
      have hf : X17.frozen? ⟨w.heap.size, 1, none⟩ = false := frozen_of_row _ _ _ _ _ HP17.out.cn
      go_wp2_with fail
      obtain ⟨X18, hX18⟩ : ∃ X, X = X17.setCell ⟨w.heap.size, 1, none⟩ (.slice a17 c.codes.length c17) := ⟨_, rfl⟩
      rw [← hX18]
      have HP18 := Lib.hid (show PS w X18 (.slice a (ser c).length cc) (pk + 2 + 1 + 4 * c.codes.length + c.codes.flatten.length) (.slice at_ c.codes.length ct) (.slice a17 c.codes.length c17) (.slice none 0 0) (.slice none 0 0) c.size by rw [hX18]; exact HP17.out.set 1 _ _ _ _ _ _ rfl)
      have HX18 := Lib.hid (show X7.heap.size ≤ X18.heap.size by rw [hX18]; simpa [World.setCell] using HX17.out)
      have HZ18 := Lib.hid (show X18.heap.size = X17.heap.size by rw [hX18]; simp [World.setCell])
      have hxb := HXB.out
      have hxf := HXF.out
      have HT18 := Lib.hid (show X18.ownsRow _ _ _ _ _ _ by rw [hX18]; exact ownsRow_setCell_ne (a := ⟨w.heap.size, 1, none⟩) HT17.out (not_of_ge HT17.out (g := w.heap.size) (by have := HX16.out; have := HX1516.out; have := HX17.out; have := HX16.out; omega)) _)
      obtain ⟨n1, n2⟩ := not_over HC17.out (g := w.heap.size) (by have := HX16.out; have := HX17.out; have := HX16.out; omega)
      have HC18 := Lib.hid (show OwnParts X18 _ _ _ _ by rw [hX18]; exact HC17.out.setCell_ne (a := ⟨w.heap.size, 1, none⟩) n1 n2 _)
      clear n1 n2
      clear hX18 hc hf hxb hxf
      have hct := cut_ok h0.out HP18.out.be (by omega) HP18.out.rd E9.out (by have := G7.out; have := HF.out; have : sumLen c.codes = (c.codes.flatten.length : Int) := rfl; omega) hlen (by omega) (as_ := none) (cs := 0) (by rw [HS0.out]; exact intsAt_nil _ _)
      rw [show c.subs.length = 0 by rw [HS0.out]; rfl] at hct
      have HCT := Lib.hid hct
      clear hct
      ((with_reducible refine HCT.out.mono ?_))
      rintro _ X19 ⟨v19, ws, rfl, hp, hr, hk⟩
      obtain ⟨a19, c19, rfl⟩ := ownsRow_slice hp.row
      have HP19 := Lib.hid (HP18.out.read hr hk)
      have hxb := HXB.out
      have hxf := HXF.out
      have HT19 := Lib.hid (hk.owns HT18.out (fun b hb e => by have := (HT18.out.lt b hb).1; omega))
      have HC19 := Lib.hid (HC18.out.kp hk (fun b hb e => by have := HX16.out; have := HX18.out; omega))
      have HX19 := Lib.hid (show X7.heap.size ≤ X19.heap.size from Nat.le_trans HX18.out hk.size)
      have HZ19 := Lib.hid hk.size
      have HS19 := Lib.hid hp
      clear hr hk hp HCT hxb hxf
      obtain ⟨qd, hqd⟩ : ∃ q : Nat, q = (pk + 2 + 1 + 4 * c.codes.length + c.codes.flatten.length + c.subs.flatten.length) := ⟨_, rfl⟩
      have HPQ := Lib.hid (show PS w X19 (.slice a (ser c).length cc) qd (.slice at_ c.codes.length ct) (.slice a17 c.codes.length c17) (.slice none 0 0) (.slice none 0 0) c.size by rw [hqd]; exact HP19.out)
      have hql : qd + c.data.length = (ser c).length := by
        have := G7.out
        have := HF.out
        have : sumLen c.codes = (c.codes.flatten.length : Int) := rfl
        have : sumLen c.subs = (c.subs.flatten.length : Int) := rfl
        have : c.subs.flatten.length = 0 := (by rw [HS0.out]; rfl)
        omega
      have hdd : (ser c).drop qd = c.data := by rw [hqd]; exact E10.out
      have HQL := Lib.hid hql
      obtain ⟨a', c', hsl, hpc⟩ := sub_l h0.out (q := qd) (by omega)
      rw [show (ser c).length - qd = c.data.length by omega] at hsl hpc
      rw [hdd] at hpc
      have HPC := Lib.hid hpc
      have r1 : X19.cell? ⟨w.heap.size + 1 + 1, 1, none⟩ = some (.int .i64 (qd : Int)) := HPQ.out.rd.c1
      have hq1 : (qd : Int) ≤ ((ser c).length : Int) := by omega
      clear hqd hql hdd hpc HP19
      have HP19 := HPQ
      have hc : X19.cell? ⟨w.heap.size, 2, none⟩ = some (.slice none 0 0) := by rw [cell_of_row _ _ _ _ _ _ HP19.out.cn]; rfl
      have hf : X19.frozen? ⟨w.heap.size, 2, none⟩ = false := frozen_of_row _ _ _ _ _ HP19.out.cn
      go_wp2_with fail
      obtain ⟨X20, hX20⟩ : ∃ X, X = X19.setCell ⟨w.heap.size, 2, none⟩ (.slice a19 c.subs.length c19) := ⟨_, rfl⟩
      rw [← hX20]
      have HP20 := Lib.hid (show PS w X20 (.slice a (ser c).length cc) qd (.slice at_ c.codes.length ct) (.slice a17 c.codes.length c17) (.slice a19 c.subs.length c19) (.slice none 0 0) c.size by rw [hX20]; exact HP19.out.set 2 _ _ _ _ _ _ rfl)
      have HX20 := Lib.hid (show X7.heap.size ≤ X20.heap.size by rw [hX20]; simpa [World.setCell] using HX19.out)
      have HZ20 := Lib.hid (show X20.heap.size = X19.heap.size by rw [hX20]; simp [World.setCell])
      have hxb := HXB.out
      have hxf := HXF.out
      have HT20 := Lib.hid (show X20.ownsRow _ _ _ _ _ _ by rw [hX20]; exact ownsRow_setCell_ne (a := ⟨w.heap.size, 2, none⟩) HT19.out (not_of_ge HT19.out (g := w.heap.size) (by have := HX16.out; have := HX1516.out; have := HX19.out; have := HX18.out; omega)) _)
      obtain ⟨n1, n2⟩ := not_over HC19.out (g := w.heap.size) (by have := HX16.out; have := HX19.out; have := HX18.out; have := HX18.out; omega)
      have HC20 := Lib.hid (show OwnParts X20 _ _ _ _ by rw [hX20]; exact HC19.out.setCell_ne (a := ⟨w.heap.size, 2, none⟩) n1 n2 _)
      clear n1 n2
      obtain ⟨n1, n2⟩ := not_over HS19.out (g := w.heap.size) (by have := HX16.out; have := HX19.out; have := HX18.out; have := HX18.out; omega)
      have HS20 := Lib.hid (show OwnParts X20 _ _ _ _ by rw [hX20]; exact HS19.out.setCell_ne (a := ⟨w.heap.size, 2, none⟩) n1 n2 _)
      clear n1 n2
      clear hX20 hc hf hxb hxf
      refine (clone_bytes (HPC.out.below HP20.out.be (Nat.le_refl _)) (by have := HSM.out.data; omega)).mono ?_
      rintro _ X21 ⟨a21, c21, rfl, hd21, hb21⟩
      have HP21 := Lib.hid (HP20.out.next hb21)
      have HX21 := Lib.hid (show X7.heap.size ≤ X21.heap.size from Nat.le_trans HX20.out hb21.size)
      have HT21 := Lib.hid (ownsRow_below HT20.out hb21 (Nat.le_refl _))
      have HC21 := Lib.hid (HC20.out.below hb21 (Nat.le_refl _))
      have HS21 := Lib.hid (HS20.out.below hb21 (Nat.le_refl _))
      have HD21 := Lib.hid hd21
      have HZ21 := Lib.hid hb21.size
      clear hd21 hb21 r1 hq1 hsl
      have hc : X21.cell? ⟨w.heap.size, 3, none⟩ = some (.slice none 0 0) := by rw [cell_of_row _ _ _ _ _ _ HP21.out.cn]; rfl
      have hf : X21.frozen? ⟨w.heap.size, 3, none⟩ = false := frozen_of_row _ _ _ _ _ HP21.out.cn
      go_wp2_with fail
      obtain ⟨X22, hX22⟩ : ∃ X, X = X21.setCell ⟨w.heap.size, 3, none⟩ (.slice a21 c.data.length c21) := ⟨_, rfl⟩
      rw [← hX22]
      have HP22 := Lib.hid (show PS w X22 (.slice a (ser c).length cc) qd (.slice at_ c.codes.length ct) (.slice a17 c.codes.length c17) (.slice a19 c.subs.length c19) (.slice a21 c.data.length c21) c.size by rw [hX22]; exact HP21.out.set 3 _ _ _ _ _ _ rfl)
      have HX22 := Lib.hid (show X7.heap.size ≤ X22.heap.size by rw [hX22]; simpa [World.setCell] using HX21.out)
      have HZ22 := Lib.hid (show X22.heap.size = X21.heap.size by rw [hX22]; simp [World.setCell])
      have hxb := HXB.out
      have hxf := HXF.out
      have HT22 := Lib.hid (show X22.ownsRow _ _ _ _ _ _ by rw [hX22]; exact ownsRow_setCell_ne (a := ⟨w.heap.size, 3, none⟩) HT21.out (not_of_ge HT21.out (g := w.heap.size) (by have := HX16.out; have := HX1516.out; have := HX21.out; have := HX20.out; omega)) _)
      have HD22 := Lib.hid (show X22.ownsRow _ _ _ _ _ _ by rw [hX22]; exact ownsRow_setCell_ne (a := ⟨w.heap.size, 3, none⟩) HD21.out (not_of_ge HD21.out (g := w.heap.size) (by have := HX16.out; have := HX1516.out; have := HX21.out; have := HX20.out; omega)) _)
      obtain ⟨n1, n2⟩ := not_over HC21.out (g := w.heap.size) (by have := HX16.out; have := HX21.out; have := HX20.out; have := HX18.out; omega)
      have HC22 := Lib.hid (show OwnParts X22 _ _ _ _ by rw [hX22]; exact HC21.out.setCell_ne (a := ⟨w.heap.size, 3, none⟩) n1 n2 _)
      clear n1 n2
      obtain ⟨n1, n2⟩ := not_over HS21.out (g := w.heap.size) (by have := HX16.out; have := HX21.out; have := HX20.out; have := HX18.out; omega)
      have HS22 := Lib.hid (show OwnParts X22 _ _ _ _ by rw [hX22]; exact HS21.out.setCell_ne (a := ⟨w.heap.size, 3, none⟩) n1 n2 _)
      clear n1 n2
      clear hX22 hc hf hxb hxf
      have k0 : X22.cell? ⟨w.heap.size, 0, none⟩ = some (.slice at_ c.codes.length ct) := by rw [cell_of_row _ _ _ _ _ _ HP22.out.cn]; rfl
      have k1 : X22.cell? ⟨w.heap.size, 1, none⟩ = some (.slice a17 c.codes.length c17) := by rw [cell_of_row _ _ _ _ _ _ HP22.out.cn]; rfl
      have k2 : X22.cell? ⟨w.heap.size, 2, none⟩ = some (.slice a19 c.subs.length c19) := by rw [cell_of_row _ _ _ _ _ _ HP22.out.cn]; rfl
      have k3 : X22.cell? ⟨w.heap.size, 3, none⟩ = some (.slice a21 c.data.length c21) := by rw [cell_of_row _ _ _ _ _ _ HP22.out.cn]; rfl
      have k4 : X22.cell? ⟨w.heap.size, 4, none⟩ = some (.int .i64 c.size) := by rw [cell_of_row _ _ _ _ _ _ HP22.out.cn]; rfl
      have n0 : X22.cell? ⟨w.heap.size + 1, 0, none⟩ = some (.int .i64 0) := by rw [cell_of_row _ _ _ _ _ _ HP22.out.no]; rfl
      have n1 : X22.cell? ⟨w.heap.size + 1, 1, none⟩ = some (.slice none 0 0) := by rw [cell_of_row _ _ _ _ _ _ HP22.out.no]; rfl
      have n2 : X22.cell? ⟨w.heap.size + 1, 2, none⟩ = some (.int .i64 0) := by rw [cell_of_row _ _ _ _ _ _ HP22.out.no]; rfl
      have n3 : X22.cell? ⟨w.heap.size + 1, 3, none⟩ = some (.int .i64 0) := by rw [cell_of_row _ _ _ _ _ _ HP22.out.no]; rfl
      have kf : ∀ j, X22.frozen? ⟨w.heap.size, j, none⟩ = false := fun j => frozen_of_row _ _ _ _ _ HP22.out.cn
      have nf : ∀ j, X22.frozen? ⟨w.heap.size + 1, j, none⟩ = false := fun j => frozen_of_row _ _ _ _ _ HP22.out.no
      go_region
      rw [setCell_self k0, setCell_self k1, setCell_self k2, setCell_self k3, setCell_self k4, setCell_self n0, setCell_self n1, setCell_self n2, setCell_self n3]
      clear kf nf
      go_wp2_with fail
      refine leaves_cons (f := 30) (args := #[.pointer (some ⟨w.heap.size, 0, none⟩), .pointer (some ⟨w.heap.size + 1, 0, none⟩)]) (by simp) (by simp [go_sem]) ?_
      refine (catch_idle ⟨w.heap.size, 0, none⟩ ⟨w.heap.size + 1, 0, none⟩ _).mono ?_
      rintro e u' w'' ⟨rfl, rfl, rfl⟩
      refine ⟨.tuple #[.agg #[(.slice at_ c.codes.length ct), (.slice a17 c.codes.length c17), (.slice a19 c.subs.length c19), (.slice a21 c.data.length c21), .int .i64 c.size], .agg #[.int .i64 0, .slice none 0 0, .int .i64 0, .int .i64 0]], by simp [results, Try.results16, go_sem, k0, k1, k2, k3, k4, n0, n1, n2, n3], ?_⟩
      have q0 := HX1516.out
      have q1 := HZ17.out
      have q2 := HZ18.out
      have q3 := HZ19.out
      have q4 := HZ20.out
      have q5 := HZ21.out
      have q6 := HZ22.out
      have q7 := HXF.out
      have t1 : X22.drew.ownsRow X15.heap.size 53 3 (.slice at_ c.codes.length ct) c.ts.length (tyVals c.ts) := by rw [HM.out.types]; exact HT22.out
      have t2 := Under.of HT16.out (Nat.le_refl _)
      have t3 := HC22.out.kp ((Kp.refl (fun _ => False) _).drew) (fun _ _ h => h)
      have t4 := HS22.out.kp ((Kp.refl (fun _ => False) _).drew) (fun _ _ h => h)
      unfold ParsePost
      rw [HM.out.types]
      refine ⟨at_, ct, _, us, _, ws, a21, c21, X16.heap.size, X18.heap.size, X20.heap.size, rfl, ⟨t1.mono (by omega), t2, t3, HC18.out.under (Nat.le_refl _), t4, HS20.out.under (Nat.le_refl _), by omega, by omega, by omega, by show X20.heap.size ≤ X22.heap.size; omega⟩, HD22.out, HP22.out.be.drew⟩

    | false =>
      have g8 : (pk : Int) + 2 + 1 + F + sumLen c.codes + c.size ≤ ((ser c).length : Int) := HOR.out.resolve_left (by decide)
      go_wp2_with fail
      go_wp2_with fail
      refine (ask_ok _ _ _ _).mono ?_
      rintro _ X15 ⟨rfl, rfl⟩
      have hty := types_ok h0.out HP15.out.be (by omega) HP15.out.rd (by rw [← HR10.out]; exact E7.out) (by have := G7.out; omega) hlen (by have := HM.out.types; omega) HM.out.tyOk (by omega) (Nat.le_refl _) HP15.out.cn
      rw [HM.out.types] at hty
      have HTY := Lib.hid hty
      clear hty r0 r1 rz k4
      go_wp2_with fail
      refine HTY.out.mono ?_
      rintro _ X16 ⟨vt, rfl, ht, hr, hcn, hk⟩
      have HP16 := Lib.hid (show PS w X16 (.slice a (ser c).length cc) (pk + 2 + 1 + 4 * c.codes.length) vt (.slice none 0 0) (.slice none 0 0) (.slice none 0 0) c.size from ⟨hr, hcn, hk.heap HP15.out.no (fun e => by rcases e with e | e <;> omega), HP15.out.be.trans (hk.below HP15.out.be.size (fun b _ e => by rcases e with e | e <;> omega))⟩)
      have HO16 := Lib.hid (hk.owns HO15.out (fun b hb e => by have := (HO15.out.lt b hb).1; have := HXB.out; rcases e with e | e <;> omega))
      have HX16 := Lib.hid (show X7.heap.size ≤ X16.heap.size from Nat.le_trans HX15.out hk.size)
      have HX1516 := Lib.hid hk.size
      have HXF := Lib.hid HP15.out.rd.lt
      obtain ⟨at_, ct, rfl⟩ := ownsRow_slice ht
      have HT16 := Lib.hid ht
      clear hr hk hcn
      have e8 := drop_tail (q := pk + 2 + 1 + 4 * c.codes.length) (E7.out.trans HR10.out) (by rw [types4_len, HM.out.types])
      have E8 := Lib.hid e8
      have E9 := Lib.hid (drop_tail (q := pk + 2 + 1 + 4 * c.codes.length + c.codes.flatten.length) e8 rfl)
      have E10 := Lib.hid (drop_tail (q := pk + 2 + 1 + 4 * c.codes.length + c.codes.flatten.length + c.subs.flatten.length) E9.out rfl)
      clear e8 ht
      go_wp2_with fail
      have hct := cut_ok h0.out HP16.out.be (by omega) HP16.out.rd E8.out (by have := G7.out; have := HF.out; have : sumLen c.codes = (c.codes.flatten.length : Int) := rfl; omega) hlen (by omega) (intsAt_own HO16.out (by have := HXB.out; omega))
      have HCT := Lib.hid hct
      clear hct
      ((with_reducible refine HCT.out.mono ?_))
      rintro _ X17 ⟨v17, us, rfl, hp, hr, hk⟩
      obtain ⟨a17, c17, rfl⟩ := ownsRow_slice hp.row
      have HP17 := Lib.hid (HP16.out.read hr hk)
      have hxb := HXB.out
      have hxf := HXF.out
      have HO17 := Lib.hid (hk.owns HO16.out (fun b hb e => by have := (HO16.out.lt b hb).1; omega))
      have HT17 := Lib.hid (hk.owns HT16.out (fun b hb e => by have := (HT16.out.lt b hb).1; omega))
      have HX17 := Lib.hid (show X7.heap.size ≤ X17.heap.size from Nat.le_trans HX16.out hk.size)
      have HZ17 := Lib.hid hk.size
      have HC17 := Lib.hid hp
      clear hr hk hp HCT hxb hxf
      have hc : X17.cell? ⟨w.heap.size, 1, none⟩ = some (.slice none 0 0) := by rw [cell_of_row _ _ _ _ _ _ HP17.out.cn]; rfl
      have hf : X17.frozen? ⟨w.heap.size, 1, none⟩ = false := frozen_of_row _ _ _ _ _ HP17.out.cn
      go_wp2_with fail
      obtain ⟨X18, hX18⟩ : ∃ X, X = X17.setCell ⟨w.heap.size, 1, none⟩ (.slice a17 c.codes.length c17) := ⟨_, rfl⟩
      rw [← hX18]
      have HP18 := Lib.hid (show PS w X18 (.slice a (ser c).length cc) (pk + 2 + 1 + 4 * c.codes.length + c.codes.flatten.length) (.slice at_ c.codes.length ct) (.slice a17 c.codes.length c17) (.slice none 0 0) (.slice none 0 0) c.size by rw [hX18]; exact HP17.out.set 1 _ _ _ _ _ _ rfl)
      have HX18 := Lib.hid (show X7.heap.size ≤ X18.heap.size by rw [hX18]; simpa [World.setCell] using HX17.out)
      have HZ18 := Lib.hid (show X18.heap.size = X17.heap.size by rw [hX18]; simp [World.setCell])
      have hxb := HXB.out
      have hxf := HXF.out
      have HT18 := Lib.hid (show X18.ownsRow _ _ _ _ _ _ by rw [hX18]; exact ownsRow_setCell_ne (a := ⟨w.heap.size, 1, none⟩) HT17.out (not_of_ge HT17.out (g := w.heap.size) (by have := HX16.out; have := HX1516.out; have := HX17.out; have := HX16.out; omega)) _)
      obtain ⟨n1, n2⟩ := not_over HC17.out (g := w.heap.size) (by have := HX16.out; have := HX17.out; have := HX16.out; omega)
      have HC18 := Lib.hid (show OwnParts X18 _ _ _ _ by rw [hX18]; exact HC17.out.setCell_ne (a := ⟨w.heap.size, 1, none⟩) n1 n2 _)
      clear n1 n2
      clear hX18 hc hf hxb hxf
      have hct := cut_ok h0.out HP18.out.be (by omega) HP18.out.rd E9.out (by have := G7.out; have := HF.out; have : sumLen c.codes = (c.codes.flatten.length : Int) := rfl; omega) hlen (by omega) (as_ := none) (cs := 0) (by rw [HS0.out]; exact intsAt_nil _ _)
      rw [show c.subs.length = 0 by rw [HS0.out]; rfl] at hct
      have HCT := Lib.hid hct
      clear hct
      ((with_reducible refine HCT.out.mono ?_))
      rintro _ X19 ⟨v19, ws, rfl, hp, hr, hk⟩
      obtain ⟨a19, c19, rfl⟩ := ownsRow_slice hp.row
      have HP19 := Lib.hid (HP18.out.read hr hk)
      have hxb := HXB.out
      have hxf := HXF.out
      have HT19 := Lib.hid (hk.owns HT18.out (fun b hb e => by have := (HT18.out.lt b hb).1; omega))
      have HC19 := Lib.hid (HC18.out.kp hk (fun b hb e => by have := HX16.out; have := HX18.out; omega))
      have HX19 := Lib.hid (show X7.heap.size ≤ X19.heap.size from Nat.le_trans HX18.out hk.size)
      have HZ19 := Lib.hid hk.size
      have HS19 := Lib.hid hp
      clear hr hk hp HCT hxb hxf
      obtain ⟨qd, hqd⟩ : ∃ q : Nat, q = (pk + 2 + 1 + 4 * c.codes.length + c.codes.flatten.length + c.subs.flatten.length) := ⟨_, rfl⟩
      have HPQ := Lib.hid (show PS w X19 (.slice a (ser c).length cc) qd (.slice at_ c.codes.length ct) (.slice a17 c.codes.length c17) (.slice none 0 0) (.slice none 0 0) c.size by rw [hqd]; exact HP19.out)
      have hql : qd + c.data.length = (ser c).length := by
        have := G7.out
        have := HF.out
        have : sumLen c.codes = (c.codes.flatten.length : Int) := rfl
        have : sumLen c.subs = (c.subs.flatten.length : Int) := rfl
        have : c.subs.flatten.length = 0 := (by rw [HS0.out]; rfl)
        omega
      have hdd : (ser c).drop qd = c.data := by rw [hqd]; exact E10.out
      have HQL := Lib.hid hql
      obtain ⟨a', c', hsl, hpc⟩ := sub_l h0.out (q := qd) (by omega)
      rw [show (ser c).length - qd = c.data.length by omega] at hsl hpc
      rw [hdd] at hpc
      have HPC := Lib.hid hpc
      have r1 : X19.cell? ⟨w.heap.size + 1 + 1, 1, none⟩ = some (.int .i64 (qd : Int)) := HPQ.out.rd.c1
      have hq1 : (qd : Int) ≤ ((ser c).length : Int) := by omega
      clear hqd hql hdd hpc HP19
      have HP19 := HPQ
      have hc : X19.cell? ⟨w.heap.size, 2, none⟩ = some (.slice none 0 0) := by rw [cell_of_row _ _ _ _ _ _ HP19.out.cn]; rfl
      have hf : X19.frozen? ⟨w.heap.size, 2, none⟩ = false := frozen_of_row _ _ _ _ _ HP19.out.cn
      go_wp2_with fail
      obtain ⟨X20, hX20⟩ : ∃ X, X = X19.setCell ⟨w.heap.size, 2, none⟩ (.slice a19 c.subs.length c19) := ⟨_, rfl⟩
      rw [← hX20]
      have HP20 := Lib.hid (show PS w X20 (.slice a (ser c).length cc) qd (.slice at_ c.codes.length ct) (.slice a17 c.codes.length c17) (.slice a19 c.subs.length c19) (.slice none 0 0) c.size by rw [hX20]; exact HP19.out.set 2 _ _ _ _ _ _ rfl)
      have HX20 := Lib.hid (show X7.heap.size ≤ X20.heap.size by rw [hX20]; simpa [World.setCell] using HX19.out)
      have HZ20 := Lib.hid (show X20.heap.size = X19.heap.size by rw [hX20]; simp [World.setCell])
      have hxb := HXB.out
      have hxf := HXF.out
      have HT20 := Lib.hid (show X20.ownsRow _ _ _ _ _ _ by rw [hX20]; exact ownsRow_setCell_ne (a := ⟨w.heap.size, 2, none⟩) HT19.out (not_of_ge HT19.out (g := w.heap.size) (by have := HX16.out; have := HX1516.out; have := HX19.out; have := HX18.out; omega)) _)
      obtain ⟨n1, n2⟩ := not_over HC19.out (g := w.heap.size) (by have := HX16.out; have := HX19.out; have := HX18.out; have := HX18.out; omega)
      have HC20 := Lib.hid (show OwnParts X20 _ _ _ _ by rw [hX20]; exact HC19.out.setCell_ne (a := ⟨w.heap.size, 2, none⟩) n1 n2 _)
      clear n1 n2
      obtain ⟨n1, n2⟩ := not_over HS19.out (g := w.heap.size) (by have := HX16.out; have := HX19.out; have := HX18.out; have := HX18.out; omega)
      have HS20 := Lib.hid (show OwnParts X20 _ _ _ _ by rw [hX20]; exact HS19.out.setCell_ne (a := ⟨w.heap.size, 2, none⟩) n1 n2 _)
      clear n1 n2
      clear hX20 hc hf hxb hxf
      refine (clone_bytes (HPC.out.below HP20.out.be (Nat.le_refl _)) (by have := HSM.out.data; omega)).mono ?_
      rintro _ X21 ⟨a21, c21, rfl, hd21, hb21⟩
      have HP21 := Lib.hid (HP20.out.next hb21)
      have HX21 := Lib.hid (show X7.heap.size ≤ X21.heap.size from Nat.le_trans HX20.out hb21.size)
      have HT21 := Lib.hid (ownsRow_below HT20.out hb21 (Nat.le_refl _))
      have HC21 := Lib.hid (HC20.out.below hb21 (Nat.le_refl _))
      have HS21 := Lib.hid (HS20.out.below hb21 (Nat.le_refl _))
      have HD21 := Lib.hid hd21
      have HZ21 := Lib.hid hb21.size
      clear hd21 hb21 r1 hq1 hsl
      have hc : X21.cell? ⟨w.heap.size, 3, none⟩ = some (.slice none 0 0) := by rw [cell_of_row _ _ _ _ _ _ HP21.out.cn]; rfl
      have hf : X21.frozen? ⟨w.heap.size, 3, none⟩ = false := frozen_of_row _ _ _ _ _ HP21.out.cn
      go_wp2_with fail
      obtain ⟨X22, hX22⟩ : ∃ X, X = X21.setCell ⟨w.heap.size, 3, none⟩ (.slice a21 c.data.length c21) := ⟨_, rfl⟩
      rw [← hX22]
      have HP22 := Lib.hid (show PS w X22 (.slice a (ser c).length cc) qd (.slice at_ c.codes.length ct) (.slice a17 c.codes.length c17) (.slice a19 c.subs.length c19) (.slice a21 c.data.length c21) c.size by rw [hX22]; exact HP21.out.set 3 _ _ _ _ _ _ rfl)
      have HX22 := Lib.hid (show X7.heap.size ≤ X22.heap.size by rw [hX22]; simpa [World.setCell] using HX21.out)
      have HZ22 := Lib.hid (show X22.heap.size = X21.heap.size by rw [hX22]; simp [World.setCell])
      have hxb := HXB.out
      have hxf := HXF.out
      have HT22 := Lib.hid (show X22.ownsRow _ _ _ _ _ _ by rw [hX22]; exact ownsRow_setCell_ne (a := ⟨w.heap.size, 3, none⟩) HT21.out (not_of_ge HT21.out (g := w.heap.size) (by have := HX16.out; have := HX1516.out; have := HX21.out; have := HX20.out; omega)) _)
      have HD22 := Lib.hid (show X22.ownsRow _ _ _ _ _ _ by rw [hX22]; exact ownsRow_setCell_ne (a := ⟨w.heap.size, 3, none⟩) HD21.out (not_of_ge HD21.out (g := w.heap.size) (by have := HX16.out; have := HX1516.out; have := HX21.out; have := HX20.out; omega)) _)
      obtain ⟨n1, n2⟩ := not_over HC21.out (g := w.heap.size) (by have := HX16.out; have := HX21.out; have := HX20.out; have := HX18.out; omega)
      have HC22 := Lib.hid (show OwnParts X22 _ _ _ _ by rw [hX22]; exact HC21.out.setCell_ne (a := ⟨w.heap.size, 3, none⟩) n1 n2 _)
      clear n1 n2
      obtain ⟨n1, n2⟩ := not_over HS21.out (g := w.heap.size) (by have := HX16.out; have := HX21.out; have := HX20.out; have := HX18.out; omega)
      have HS22 := Lib.hid (show OwnParts X22 _ _ _ _ by rw [hX22]; exact HS21.out.setCell_ne (a := ⟨w.heap.size, 3, none⟩) n1 n2 _)
      clear n1 n2
      clear hX22 hc hf hxb hxf
      have k0 : X22.cell? ⟨w.heap.size, 0, none⟩ = some (.slice at_ c.codes.length ct) := by rw [cell_of_row _ _ _ _ _ _ HP22.out.cn]; rfl
      have k1 : X22.cell? ⟨w.heap.size, 1, none⟩ = some (.slice a17 c.codes.length c17) := by rw [cell_of_row _ _ _ _ _ _ HP22.out.cn]; rfl
      have k2 : X22.cell? ⟨w.heap.size, 2, none⟩ = some (.slice a19 c.subs.length c19) := by rw [cell_of_row _ _ _ _ _ _ HP22.out.cn]; rfl
      have k3 : X22.cell? ⟨w.heap.size, 3, none⟩ = some (.slice a21 c.data.length c21) := by rw [cell_of_row _ _ _ _ _ _ HP22.out.cn]; rfl
      have k4 : X22.cell? ⟨w.heap.size, 4, none⟩ = some (.int .i64 c.size) := by rw [cell_of_row _ _ _ _ _ _ HP22.out.cn]; rfl
      have n0 : X22.cell? ⟨w.heap.size + 1, 0, none⟩ = some (.int .i64 0) := by rw [cell_of_row _ _ _ _ _ _ HP22.out.no]; rfl
      have n1 : X22.cell? ⟨w.heap.size + 1, 1, none⟩ = some (.slice none 0 0) := by rw [cell_of_row _ _ _ _ _ _ HP22.out.no]; rfl
      have n2 : X22.cell? ⟨w.heap.size + 1, 2, none⟩ = some (.int .i64 0) := by rw [cell_of_row _ _ _ _ _ _ HP22.out.no]; rfl
      have n3 : X22.cell? ⟨w.heap.size + 1, 3, none⟩ = some (.int .i64 0) := by rw [cell_of_row _ _ _ _ _ _ HP22.out.no]; rfl
      have kf : ∀ j, X22.frozen? ⟨w.heap.size, j, none⟩ = false := fun j => frozen_of_row _ _ _ _ _ HP22.out.cn
      have nf : ∀ j, X22.frozen? ⟨w.heap.size + 1, j, none⟩ = false := fun j => frozen_of_row _ _ _ _ _ HP22.out.no
      go_region
      rw [setCell_self k0, setCell_self k1, setCell_self k2, setCell_self k3, setCell_self k4, setCell_self n0, setCell_self n1, setCell_self n2, setCell_self n3]
      clear kf nf
      go_wp2_with fail
      refine leaves_cons (f := 30) (args := #[.pointer (some ⟨w.heap.size, 0, none⟩), .pointer (some ⟨w.heap.size + 1, 0, none⟩)]) (by simp) (by simp [go_sem]) ?_
      refine (catch_idle ⟨w.heap.size, 0, none⟩ ⟨w.heap.size + 1, 0, none⟩ _).mono ?_
      rintro e u' w'' ⟨rfl, rfl, rfl⟩
      refine ⟨.tuple #[.agg #[(.slice at_ c.codes.length ct), (.slice a17 c.codes.length c17), (.slice a19 c.subs.length c19), (.slice a21 c.data.length c21), .int .i64 c.size], .agg #[.int .i64 0, .slice none 0 0, .int .i64 0, .int .i64 0]], by simp [results, Try.results16, go_sem, k0, k1, k2, k3, k4, n0, n1, n2, n3], ?_⟩
      have q0 := HX1516.out
      have q1 := HZ17.out
      have q2 := HZ18.out
      have q3 := HZ19.out
      have q4 := HZ20.out
      have q5 := HZ21.out
      have q6 := HZ22.out
      have q7 := HXF.out
      have t1 : X22.drew.ownsRow X15.heap.size 53 3 (.slice at_ c.codes.length ct) c.ts.length (tyVals c.ts) := by rw [HM.out.types]; exact HT22.out
      have t2 := Under.of HT16.out (Nat.le_refl _)
      have t3 := HC22.out.kp ((Kp.refl (fun _ => False) _).drew) (fun _ _ h => h)
      have t4 := HS22.out.kp ((Kp.refl (fun _ => False) _).drew) (fun _ _ h => h)
      unfold ParsePost
      rw [HM.out.types]
      refine ⟨at_, ct, _, us, _, ws, a21, c21, X16.heap.size, X18.heap.size, X20.heap.size, rfl, ⟨t1.mono (by omega), t2, t3, HC18.out.under (Nat.le_refl _), t4, HS20.out.under (Nat.le_refl _), by omega, by omega, by omega, by show X20.heap.size ≤ X22.heap.size; omega⟩, HD22.out, HP22.out.be.drew⟩



end Go.Proofs.Ytalhoahkbmeeeaa
