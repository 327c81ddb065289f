/- same (11): are two containers the same? For containers that memory holds. -/
import Derived.Test.YtalhoahkbmeeeaaSame
import Derived.Laws.StructEq
namespace Go.Proofs.Ytalhoahkbmeeeaa
open Go.RowKit

theorem fields53 : (Try.prog.fieldsOf 53).toList = [⟨"In", 3, 0, false, "", "", 0⟩, ⟨"Out", 3, 1, false, "", "", 8⟩, ⟨"Most", 3, 2, false, "", "", 16⟩] := by kernel_rfl

theorem eqa53 (w : World) (a b c x y z : Int) (d : Nat) : (Op.equalIn (d + 2) 53 (.agg #[.int .i64 a, .int .i64 b, .int .i64 c]) (.agg #[.int .i64 x, .int .i64 y, .int .i64 z])).run Try.prog w = .ok (a == x && (b == y && c == z)) w := by
  rw [run_equalIn_struct w (d + 1) 53 _ _ (by kernel_rfl) (by kernel_rfl), fields53]
  have p : ∀ (x y z : Int) (o : Nat) (v : Value), #[Value.int .i64 x, Value.int .i64 y, Value.int .i64 z][o]? = some v → (part 3 #[.int .i64 x, .int .i64 y, .int .i64 z] o).run Try.prog w = .ok v w := by
    intro x y z o v h
    simp [part, isAgg, run_underlying Try.underlying3, h]
  have p0 := fun x y z => p x y z 0 _ rfl
  have p1 := fun x y z => p x y z 1 _ rfl
  have p2 := fun x y z => p x y z 2 _ rfl
  have e3 := fun u v => run_equalIn_int w d 3 .i64 .i64 u v Try.underlying3
  clear p
  by_cases h1 : a = x <;> by_cases h2 : b = y <;> by_cases h3 : c = z <;> simp [Op.eqFields, p0, p1, p2, e3, h1, h2, h3]

theorem neq53 (w : World) (a b c x y z : Int) :
    (binOp .neq 53 (.agg #[.int .i64 a, .int .i64 b, .int .i64 c]) (.agg #[.int .i64 x, .int .i64 y, .int .i64 z])).run Try.prog w = .ok (.bool (!(a == x && (b == y && c == z)))) w := by
  have e := eqa53 w a b c x y z 9998
  simp only [binOp]
  simp [Op.equal, Op.maxDepth, e]

theorem guard53 (x y : Operand) (a b : Array Value) (w : World) : (eqGuard .neq 53 x y (.agg a) (.agg b)).run Try.prog w = .ok () w := by kernel_rfl

/-- what same boxes -/
def boxed (w : World) (A B : Array Value) : World := (w.alloc (.cells A 26)).alloc (.cells B 26)

theorem boxed_below (w : World) (A B : Array Value) (n : Nat) : Below w.heap.size w (((w.alloc (.cells A 26)).alloc (.cells B 26)).drewN n) :=
  (((Below.refl _ _).alloc (Nat.le_refl _) _).alloc (by simp) _).trans (drewN_below _ _ n)

theorem boxed_below0 (w : World) (A B : Array Value) : Below w.heap.size w ((w.alloc (.cells A 26)).alloc (.cells B 26)) :=
  ((Below.refl _ _).alloc (Nat.le_refl _) _).alloc (by simp) _

section
variable {w : World} {a a' : Option Addr} {c c' n n' : Nat} {vc vs vd vc' vs' vd' : Value} {z z' : Int}
set_option maxHeartbeats 400000

theorem same_ne_ts (h : n ≠ n') : Calls Try.prog 11 #[.agg #[.slice a n c, vc, vs, vd, .int .i64 z], .agg #[.slice a' n' c', vc', vs', vd', .int .i64 z']] w
    fun e w' => e = .returned (.bool false) ∧ Below w.heap.size w w' := by
  have hd : ((n : Int) != (n' : Int)) = true := by rw [bne_iff_ne]; omega
  go_enter Try.func11, Try.ntmps11
  go_wp2_with fail
  go_ret
  exact ⟨rfl, boxed_below0 _ _ _⟩

theorem same_ne_size (h : z ≠ z') : Calls Try.prog 11 #[.agg #[.slice a n c, vc, vs, vd, .int .i64 z], .agg #[.slice a' n c', vc', vs', vd', .int .i64 z']] w
    fun e w' => e = .returned (.bool false) ∧ Below w.heap.size w w' := by
  have hd : (z != z') = true := by rw [bne_iff_ne]; exact h
  go_enter Try.func11, Try.ntmps11
  go_wp2_with fail
  go_ret
  exact ⟨rfl, boxed_below0 _ _ _⟩

variable {codes codes' subs subs' : List (List Int)} {data data' : List Int}
theorem same_ne_rest (hc : RP w vc codes) (hc' : RP w vc' codes') (hs : RP w vs subs) (hs' : RP w vs' subs') (hdt : RB w vd data) (hdt' : RB w vd' data')
    (l1 : codes.length ≤ maxLen) (l2 : ∀ j, j < codes.length → (gp codes j).length ≤ maxLen) (l3 : subs.length ≤ maxLen) (l4 : ∀ j, j < subs.length → (gp subs j).length ≤ maxLen) (l5 : data.length ≤ maxLen)
    (h : ¬ (codes = codes' ∧ subs = subs' ∧ data = data')) :
    Calls Try.prog 11 #[.agg #[.slice a n c, vc, vs, vd, .int .i64 z], .agg #[.slice a' n c', vc', vs', vd', .int .i64 z]] w
    fun e w' => e = .returned (.bool false) ∧ Below w.heap.size w w' := by
  have HC : ∀ W, Below w.heap.size w W → _ := fun W hW => sameParts_any (hc.below hW (Nat.le_refl _)) (hc'.below hW (Nat.le_refl _)) l1 l2
  have HS : ∀ W, Below w.heap.size w W → _ := fun W hW => sameParts_any (hs.below hW (Nat.le_refl _)) (hs'.below hW (Nat.le_refl _)) l3 l4
  have HD : ∀ W, Below w.heap.size w W → _ := fun W hW => sameBytes_any (hdt.below hW (Nat.le_refl _)) (hdt'.below hW (Nat.le_refl _)) l5
  have hb0 := boxed_below0 w #[.slice a n c, vc, vs, vd, .int .i64 z] #[.slice a' n c', vc', vs', vd', .int .i64 z]
  have hb := boxed_below w #[.slice a n c, vc, vs, vd, .int .i64 z] #[.slice a' n c', vc', vs', vd', .int .i64 z]
  have HB0 := Lib.hid hb0
  have HB := Lib.hid hb
  have HC' := Lib.hid HC
  have HS' := Lib.hid HS
  have HD' := Lib.hid HD
  have hz : (z != z) = false := by simp
  clear hb0 hb HC HS HD hc hc' hs hs' hdt hdt' l1 l2 l3 l4 l5
  by_cases e1 : codes = codes'
  · have E1 : decide (codes = codes') = true := decide_eq_true e1
    rw [E1] at HC'
    have H := Lib.hid h
    have H1 := Lib.hid e1
    clear h e1 E1
    by_cases e2 : subs = subs'
    · have E2 : decide (subs = subs') = true := decide_eq_true e2
      rw [E2] at HS'
      have H2 := Lib.hid e2
      have E3 : decide (data = data') = false := decide_eq_false fun e3 => H.out ⟨H1.out, H2.out, e3⟩
      rw [E3] at HD'
      clear e2 E2 E3
      go_enter Try.func11, Try.ntmps11
      go_wp2_with fail
      refine (HC'.out _ HB0.out).mono ?_
      rintro e w1 ⟨rfl, n1, rfl⟩
      go_wp2_with fail
      refine (HS'.out _ (HB.out _)).mono ?_
      rintro e w1 ⟨rfl, n2, rfl⟩
      go_wp2_with fail
      refine (HD'.out _ (HB.out _)).mono ?_
      rintro e w1 ⟨rfl, n3, rfl⟩
      go_wp2_with fail
      go_ret
      exact ⟨rfl, by simpa using HB.out (n1 + n2 + n3)⟩
    · have E2 : decide (subs = subs') = false := decide_eq_false e2
      rw [E2] at HS'
      clear e2 E2
      go_enter Try.func11, Try.ntmps11
      go_wp2_with fail
      refine (HC'.out _ HB0.out).mono ?_
      rintro e w1 ⟨rfl, n1, rfl⟩
      go_wp2_with fail
      refine (HS'.out _ (HB.out _)).mono ?_
      rintro e w1 ⟨rfl, n2, rfl⟩
      go_wp2_with fail
      go_ret
      exact ⟨rfl, by simpa using HB.out (n1 + n2)⟩
  · have E1 : decide (codes = codes') = false := decide_eq_false e1
    rw [E1] at HC'
    clear e1 E1
    go_enter Try.func11, Try.ntmps11
    go_wp2_with fail
    refine (HC'.out _ HB0.out).mono ?_
    rintro e w1 ⟨rfl, n1, rfl⟩
    go_wp2_with fail
    go_ret
    exact ⟨rfl, HB.out n1⟩

theorem same_zero (hc : RP w vc codes) (hc' : RP w vc' codes) (hs : RP w vs subs) (hs' : RP w vs' subs) (hdt : RB w vd data) (hdt' : RB w vd' data)
    (l1 : codes.length ≤ maxLen) (l2 : ∀ j, j < codes.length → (gp codes j).length ≤ maxLen) (l3 : subs.length ≤ maxLen) (l4 : ∀ j, j < subs.length → (gp subs j).length ≤ maxLen) (l5 : data.length ≤ maxLen) :
    Calls Try.prog 11 #[.agg #[.slice a 0 c, vc, vs, vd, .int .i64 z], .agg #[.slice a' 0 c', vc', vs', vd', .int .i64 z]] w
    fun e w' => e = .returned (.bool true) ∧ Below w.heap.size w w' := by
  have HC : ∀ W, Below w.heap.size w W → _ := fun W hW => sameParts_any (hc.below hW (Nat.le_refl _)) (hc'.below hW (Nat.le_refl _)) l1 l2
  have HS : ∀ W, Below w.heap.size w W → _ := fun W hW => sameParts_any (hs.below hW (Nat.le_refl _)) (hs'.below hW (Nat.le_refl _)) l3 l4
  have HD : ∀ W, Below w.heap.size w W → _ := fun W hW => sameBytes_any (hdt.below hW (Nat.le_refl _)) (hdt'.below hW (Nat.le_refl _)) l5
  have hb0 := boxed_below0 w #[.slice a 0 c, vc, vs, vd, .int .i64 z] #[.slice a' 0 c', vc', vs', vd', .int .i64 z]
  have hb := boxed_below w #[.slice a 0 c, vc, vs, vd, .int .i64 z] #[.slice a' 0 c', vc', vs', vd', .int .i64 z]
  have HB0 := Lib.hid hb0
  have HB := Lib.hid hb
  simp only [eq_self, decide_true] at HC HS HD
  have HC' := Lib.hid HC
  have HS' := Lib.hid HS
  have HD' := Lib.hid HD
  have hz : (z != z) = false := by simp
  clear hb0 hb HC HS HD hc hc' hs hs' hdt hdt' l1 l2 l3 l4 l5
  go_enter Try.func11, Try.ntmps11
  go_wp2_with fail
  refine (HC'.out _ HB0.out).mono ?_
  rintro e w1 ⟨rfl, n1, rfl⟩
  go_wp2_with fail
  refine (HS'.out _ (HB.out _)).mono ?_
  rintro e w1 ⟨rfl, n2, rfl⟩
  go_wp2_with fail
  refine (HD'.out _ (HB.out _)).mono ?_
  rintro e w1 ⟨rfl, n3, rfl⟩
  go_wp2_with fail
  refine wp_loop_rounds 1 ?_
  rw [rounds_succ]
  go_wp2
  go_ret
  exact ⟨rfl, by simpa using HB.out (n1 + n2 + n3)⟩

theorem ty_ne {x y : Ty} (h : ¬ x = y) : (!(x.1 == y.1 && (x.2.1 == y.2.1 && x.2.2 == y.2.2))) = true := by
  obtain ⟨x1, x2, x3⟩ := x
  obtain ⟨y1, y2, y3⟩ := y
  simp at h ⊢
  by_cases h1 : x1 = y1
  · by_cases h2 : x2 = y2
    · exact .inr (.inr (h h1 h2))
    · exact .inr (.inl h2)
  · exact .inl h1

variable {b b' off off' : Nat} {ts ts' : List Ty}
theorem same_pos (hc : RP w vc codes) (hc' : RP w vc' codes) (hs : RP w vs subs) (hs' : RP w vs' subs) (hdt : RB w vd data) (hdt' : RB w vd' data)
    (l1 : codes.length ≤ maxLen) (l2 : ∀ j, j < codes.length → (gp codes j).length ≤ maxLen) (l3 : subs.length ≤ maxLen) (l4 : ∀ j, j < subs.length → (gp subs j).length ≤ maxLen) (l5 : data.length ≤ maxLen)
    (hl : ts'.length = ts.length) (hmax : ts.length ≤ 1000000000)
    (ht : TyAt w b off ts ts.length) (ht' : TyAt w b' off' ts' ts.length) :
    Calls Try.prog 11 #[.agg #[.slice (some ⟨b, off, none⟩) ts.length c, vc, vs, vd, .int .i64 z], .agg #[.slice (some ⟨b', off', none⟩) ts.length c', vc', vs', vd', .int .i64 z]] w
    fun e w' => e = .returned (.bool (decide (ts = ts'))) ∧ Below w.heap.size w w' := by
  have HC : ∀ W, Below w.heap.size w W → _ := fun W hW => sameParts_any (hc.below hW (Nat.le_refl _)) (hc'.below hW (Nat.le_refl _)) l1 l2
  have HS : ∀ W, Below w.heap.size w W → _ := fun W hW => sameParts_any (hs.below hW (Nat.le_refl _)) (hs'.below hW (Nat.le_refl _)) l3 l4
  have HD : ∀ W, Below w.heap.size w W → _ := fun W hW => sameBytes_any (hdt.below hW (Nat.le_refl _)) (hdt'.below hW (Nat.le_refl _)) l5
  have hb0 := boxed_below0 w #[.slice (some ⟨b, off, none⟩) ts.length c, vc, vs, vd, .int .i64 z] #[.slice (some ⟨b', off', none⟩) ts.length c', vc', vs', vd', .int .i64 z]
  have hb := boxed_below w #[.slice (some ⟨b, off, none⟩) ts.length c, vc, vs, vd, .int .i64 z] #[.slice (some ⟨b', off', none⟩) ts.length c', vc', vs', vd', .int .i64 z]
  have HB0 := Lib.hid hb0
  have HB := Lib.hid hb
  simp only [eq_self, decide_true] at HC HS HD
  have HC' := Lib.hid HC
  have HS' := Lib.hid HS
  have HD' := Lib.hid HD
  have HT := Lib.hid (ht.below hb0 (Nat.le_refl _))
  have HT' := Lib.hid (ht'.below hb0 (Nat.le_refl _))
  have HL := Lib.hid hl
  have hz : (z != z) = false := by simp
  clear hb0 hb HC HS HD hc hc' hs hs' hdt hdt' l1 l2 l3 l4 l5 ht ht' hl
  go_enter Try.func11, Try.ntmps11
  go_wp2_with fail
  refine (HC'.out _ HB0.out).mono ?_
  rintro e w1 ⟨rfl, n1, rfl⟩
  go_wp2_with fail
  refine (HS'.out _ (HB.out _)).mono ?_
  rintro e w1 ⟨rfl, n2, rfl⟩
  go_wp2_with fail
  refine (HD'.out _ (HB.out _)).mono ?_
  rintro e w1 ⟨rfl, n3, rfl⟩
  go_wp2_with fail
  have neq := neq53
  have grd := guard53
  go_loopw [4, 5] (fun r i wr => ∃ k : Nat, k ≤ ts.length ∧ i = .int .i64 k ∧ r = .bool false ∧ ts.take k = ts'.take k ∧
    ∃ n, wr = ((w.alloc (.cells #[.slice (some ⟨b, off, none⟩) ts.length c, vc, vs, vd, .int .i64 z] 26)).alloc (.cells #[.slice (some ⟨b', off', none⟩) ts.length c', vc', vs', vd', .int .i64 z] 26)).drewN n) (fun _ i _ => ts.length - (intOf i).toNat)
  case atStart => exact ⟨0, Nat.zero_le _, rfl, rfl, by simp, n1 + n2 + n3, by simp⟩
  case round =>
    obtain ⟨k, hk, rfl, rfl, htk, nn, rfl⟩ := hrel
    have HK := Lib.hid htk
    clear htk
    by_cases hlt : k < ts.length
    · obtain ⟨h1, h2, h3⟩ := HT.out k hlt
      obtain ⟨h1', h2', h3'⟩ := HT'.out k hlt
      by_cases he : gt ts k = gt ts' k
      · have hq : (!((gt ts k).1 == (gt ts' k).1 && ((gt ts k).2.1 == (gt ts' k).2.1 && (gt ts k).2.2 == (gt ts' k).2.2))) = false := by rw [he]; simp
        have HE := Lib.hid he
        clear he
        go_wp2
        go_quiet (fail)
        go_wp2
        refine ⟨⟨k + 1, by omega, by go_num, rfl, ?_, nn + nq, rfl⟩, by simp [intOf]; omega⟩
        refine take_snoc_eq hlt (by have := HL.out; omega) HK.out ?_
        have := HE.out
        rwa [gt_eq hlt, gt_eq (by have := HL.out; omega)] at this
      · have hq := ty_ne he
        have HE := Lib.hid he
        clear he
        go_wp2
        go_quiet (fail)
        go_wp2
        go_ret
        refine ⟨ret_bool ?_, by simpa using HB.out (nn + nq)⟩
        symm
        rw [decide_eq_false_iff_not]
        rintro rfl
        exact HE.out rfl
    · go_wp2
      go_ret
      refine ⟨ret_bool ?_, by simpa using HB.out nn⟩
      symm
      rw [decide_eq_true_iff]
      have := HK.out
      rwa [show k = ts.length by omega, List.take_length, ← HL.out, List.take_length] at this
end

/-- same: are two containers the same? -/
theorem same_any {w : World} {v v' : Value} {c c' : Cn} (h : RCn w v c) (h' : RCn w v' c') (hm : c.small 1000000000) :
    Calls Try.prog 11 #[v, v'] w fun e w' => e = .returned (.bool (decide (c = c'))) ∧ Below w.heap.size w w' := by
  obtain ⟨vt, vc, vs, vd, rfl, h1, h2, h3, h4⟩ := h
  obtain ⟨vt', vc', vs', vd', rfl, h1', h2', h3', h4'⟩ := h'
  have M : (1000000000 : Nat) ≤ maxLen := by unfold maxLen; omega
  have l1 := Nat.le_trans hm.codes M
  have l2 : ∀ j, j < c.codes.length → (gp c.codes j).length ≤ maxLen := fun j hj => Nat.le_trans (hm.code j hj) M
  have l3 := Nat.le_trans hm.subs M
  have l4 : ∀ j, j < c.subs.length → (gp c.subs j).length ≤ maxLen := fun j hj => Nat.le_trans (hm.sub j hj) M
  have l5 := Nat.le_trans hm.data M
  have no : ∀ {e : Ending} {w' : World}, ¬ c = c' → (e = .returned (.bool false) ∧ Below w.heap.size w w') → (e = .returned (.bool (decide (c = c'))) ∧ Below w.heap.size w w') :=
    fun hne ⟨he, hb⟩ => ⟨by rw [he, decide_eq_false hne], hb⟩
  by_cases e1 : c.ts.length = c'.ts.length
  · by_cases e2 : c.size = c'.size
    · by_cases e3 : c.codes = c'.codes ∧ c.subs = c'.subs ∧ c.data = c'.data
      · obtain ⟨e4, e5, e6⟩ := e3
        rw [← e4] at h2'
        rw [← e5] at h3'
        rw [← e6] at h4'
        rw [← e2]
        have iff : (c = c') ↔ c.ts = c'.ts := by
          constructor
          · rintro rfl; rfl
          · intro h
            cases c
            cases c'
            simp at e2 e4 e5 e6 h ⊢
            exact ⟨h, e4, e5, e6, e2⟩
        rcases h1.cases with ⟨t0, a, cp, rfl⟩ | ⟨tp, b, off, cp, rfl, -, ht⟩
        · rcases h1' with ⟨-, a', cp', rfl, -⟩
          rw [← e1, t0]
          refine (same_zero h2 h2' h3 h3' h4 h4' l1 l2 l3 l4 l5).mono fun e w' ⟨he, hb⟩ => ⟨?_, hb⟩
          have : c.ts = c'.ts := by
            rw [t0]
            symm
            exact List.eq_nil_of_length_eq_zero (by rw [← e1, t0]; rfl)
          rw [he, decide_eq_true (iff.2 this)]
        · rcases h1'.cases with ⟨t0, a', cp', rfl⟩ | ⟨-, b', off', cp', rfl, -, ht'⟩
          · rw [t0] at e1
            have : c.ts.length = 0 := e1
            omega
          · rw [← e1] at ht' ⊢
            refine (same_pos h2 h2' h3 h3' h4 h4' l1 l2 l3 l4 l5 e1.symm hm.ts ht ht').mono fun e w' ⟨he, hb⟩ => ⟨?_, hb⟩
            rw [he]
            exact ret_bool (by rw [Bool.eq_iff_iff, decide_eq_true_iff, decide_eq_true_iff]; exact iff.symm)
      · rcases h1 with ⟨-, a, cp, rfl, -⟩
        rcases h1' with ⟨-, a', cp', rfl, -⟩
        rw [← e1, ← e2]
        exact (same_ne_rest h2 h2' h3 h3' h4 h4' l1 l2 l3 l4 l5 e3).mono fun e w' h => no (fun hcc => e3 (by subst hcc; exact ⟨rfl, rfl, rfl⟩)) h
    · rcases h1 with ⟨-, a, cp, rfl, -⟩
      rcases h1' with ⟨-, a', cp', rfl, -⟩
      rw [← e1]
      exact (same_ne_size e2).mono fun e w' h => no (fun hcc => e2 (by rw [hcc])) h
  · rcases h1 with ⟨-, a, cp, rfl, -⟩
    rcases h1' with ⟨-, a', cp', rfl, -⟩
    exact (same_ne_ts e1).mono fun e w' h => no (fun hcc => e1 (by rw [hcc])) h

end Go.Proofs.Ytalhoahkbmeeeaa
