/- Serialize (12) of a container that may be: its bytes, in new memory. -/
import Derived.Test.YtalhoahkbmeeeaaBytes
import Derived.Test.YtalhoahkbmeeeaaPut2
import Derived.Test.YtalhoahkbmeeeaaSize
import Derived.Test.YtalhoahkbmeeeaaTypes
import Derived.Deep.DeepCutAuto
namespace Go.Proofs.Ytalhoahkbmeeeaa
open Go.RowKit

/-- the bytes, in new memory; no error -/
def SerPost (w : World) (l : List Int) (e : Ending) (w' : World) : Prop := ∃ a c, e = .returned (.tuple #[.slice a l.length c, .int .i64 0]) ∧ OB w' w.heap.size (.slice a l.length c) l ∧ Below w.heap.size w w'

/-- behind put: what stands below the slice's own block -/
theorem PutPost.below {w w' : World} {base B : Nat} {v : Value} {l : List Int} {w0 : World} (h : OB w base v l) (hk : Kp (fun b => v.ownBlock = some b) w w') (hb : Below B w0 w) (hB : B ≤ base) (hs : B ≤ w.heap.size) : Below B w0 w' :=
  hb.trans (hk.below hs (fun b _ e => Nat.le_trans hB (h.lt b e).1))

/-- a literal that a put has not written stands behind it -/
theorem RC.kept {W w' : World} {v : Value} {g m cap size n : Nat} {cs : List Value} (h : RC W (.slice (some ⟨g, 0, Option.none⟩) m cap) n size cs) (hk : Kp (fun b => v.ownBlock = some b) W w') (hr : v.ownBlock ≠ some g) :
    RC w' (.slice (some ⟨g, 0, Option.none⟩) m cap) n size cs := hk.rc h hr

set_option maxRecDepth 100000 in
set_option maxHeartbeats 6400000 in
theorem serialize_any {w : World} {v : Value} {c : Cn} (h : RCn w v c) (hm : c.may) (hsm : c.small 2097152) :
    Calls Try.prog 12 #[v] w fun e w' => SerPost w (ser c) e w' := by
  obtain ⟨at_, ct, ac, cc, as_, cs, ad, cd, rfl, h1, h2, h3, h4⟩ := h.open
  obtain ⟨i0, hi, hz, hsz, hby⟩ := info_parts info5
  obtain ⟨W1, hW1⟩ : ∃ W1, W1 = w.alloc (.cells #[.slice at_ c.ts.length ct, .slice ac c.codes.length cc, .slice as_ c.subs.length cs, .slice ad c.data.length cd, .int .i64 c.size] 26) := ⟨_, rfl⟩
  have hB : Below w.heap.size w W1 := by rw [hW1]; exact boxed1 w _
  have b0 : W1.cell? ⟨w.heap.size, 0, none⟩ = some (.slice at_ c.ts.length ct) := by rw [hW1, World.cell?_alloc_at _ _ _ _ rfl]; rfl
  have b1 : W1.cell? ⟨w.heap.size, 1, none⟩ = some (.slice ac c.codes.length cc) := by rw [hW1, World.cell?_alloc_at _ _ _ _ rfl]; rfl
  have b2 : W1.cell? ⟨w.heap.size, 2, none⟩ = some (.slice as_ c.subs.length cs) := by rw [hW1, World.cell?_alloc_at _ _ _ _ rfl]; rfl
  have b3 : W1.cell? ⟨w.heap.size, 3, none⟩ = some (.slice ad c.data.length cd) := by rw [hW1, World.cell?_alloc_at _ _ _ _ rfl]; rfl
  have b4 : W1.cell? ⟨w.heap.size, 4, none⟩ = some (.int .i64 c.size) := by rw [hW1, World.cell?_alloc_at _ _ _ _ rfl]; rfl
  have hz1 : W1.heap.size = w.heap.size + 1 := by rw [hW1]; simp
  have HSZ := Lib.hid (size_any (h.below hB (Nat.le_refl _)) hm hsm)
  have H1 := Lib.hid (h1.below hB (Nat.le_refl _))
  have H2 := Lib.hid (h2.below hB (Nat.le_refl _))
  have H3 := Lib.hid (h3.below hB (Nat.le_refl _))
  have H4 := Lib.hid (h4.below hB (Nat.le_refl _))
  have HB := Lib.hid hB
  have B0 := Lib.hid b0
  have B1 := Lib.hid b1
  have B2 := Lib.hid b2
  have B3 := Lib.hid b3
  have B4 := Lib.hid b4
  have HM := Lib.hid hm
  have HSM := Lib.hid hsm
  have m1 := hm.codes2
  have m2 := hm.subs
  have m3 : c.ts.length ≤ 1024 := by have := hm.types; omega
  have m4 := hsm.data
  have m5 := hm.size
  have m6 : 0 ≤ c.size := by have := hm.data; omega
  have HT := Lib.hid hm.types
  have HZ := Lib.hid hz1
  clear hB hm hsm h1 h2 h3 h4 h
  go_enter Try.func12, Try.ntmps12
  go_wp2_with fail
  rw [← hW1]
  clear b0 b1 b2 b3 b4 hW1 hz1
  refine HSZ.out.mono ?_
  rintro e w1 ⟨n, n0, n1, rfl, hb1⟩
  have HBW := Lib.hid (HB.out.trans (hb1.mono (by have := HZ.out; omega)))
  obtain ⟨-, bc, oc, uc, -, hci, hcc, hcr⟩ := (H2.out.below hb1 (Nat.le_refl _)).at
  obtain ⟨-, bs, os, us, -, hsi, hsc, hsr⟩ := (H3.out.below hb1 (Nat.le_refl _)).at
  obtain ⟨-, bt, ot, hti, htc⟩ := (H1.out.below hb1 (Nat.le_refl _)).at
  have HD := Lib.hid (H4.out.below hb1 (Nat.le_refl _))
  have CELLS := Lib.hid (fun (a : Addr) (u : Value) (hc : w1.cell? a = some u) (W : World) (hb : Below w1.heap.size w1 W) => cell_below hb (Nat.le_refl _) hc)
  have C0 := Lib.hid (fun W (hb : Below w1.heap.size w1 W) => cell_below hb (Nat.le_refl _) (cell_below hb1 (Nat.le_refl _) B0.out))
  have C1 := Lib.hid (fun W (hb : Below w1.heap.size w1 W) => cell_below hb (Nat.le_refl _) (cell_below hb1 (Nat.le_refl _) B1.out))
  have C2 := Lib.hid (fun W (hb : Below w1.heap.size w1 W) => cell_below hb (Nat.le_refl _) (cell_below hb1 (Nat.le_refl _) B2.out))
  have C3 := Lib.hid (fun W (hb : Below w1.heap.size w1 W) => cell_below hb (Nat.le_refl _) (cell_below hb1 (Nat.le_refl _) B3.out))
  have C4 := Lib.hid (fun W (hb : Below w1.heap.size w1 W) => cell_below hb (Nat.le_refl _) (cell_below hb1 (Nat.le_refl _) B4.out))
  have hwl : w.heap.size < w1.heap.size := by have := hb1.size; have := HZ.out; omega
  have HWL := Lib.hid hwl
  have HCI := Lib.hid hci
  have HSI := Lib.hid hsi
  have HTI := Lib.hid hti
  have HCC := Lib.hid hcc
  have HSC := Lib.hid hsc
  have HTC := Lib.hid htc
  have HCR := Lib.hid hcr
  have HSR := Lib.hid hsr
  obtain ⟨nn, rfl⟩ := Int.eq_ofNat_of_zero_le n0
  have hmk : ∀ W, (Instr.makeSlice 24 (.int .i64 0) (.int .i64 (nn : Int))).run Try.prog W = .ok (.slice (some ⟨W.heap.size, 0, none⟩) 0 nn) (W.alloc (.cells (madeCells #[.int .u8 0] (nn * i0.size)) 5)) :=
    fun W => run_make_rowN (P := Try.prog) 24 5 i0 (.int .u8 0) Try.underlying24 hi hz .i64 .i64 0 nn (Nat.zero_le _) (by rw [hby]; omega) (by omega) W
  rw [hsz, Nat.mul_one] at hmk
  have hq0 := cell_below hb1 (Nat.le_refl _) B0.out
  have HQ0 := Lib.hid hq0
  clear hci hsi hti hcc hsc htc hcr hsr hb1
  have ho0 : OB (w1.alloc (.cells (madeCells #[.int .u8 0] nn) 5)) w1.heap.size (.slice (some ⟨w1.heap.size, 0, none⟩) 0 nn) [] :=
    World.ownsRow_made w1 _ _ (Nat.le_refl _) (by unfold maxLen; omega) (by rw [size_madeCells, Nat.mul_one])
  have hb0 : Below w1.heap.size w1 (w1.alloc (.cells (madeCells #[.int .u8 0] nn) 5)) := (Below.refl _ _).alloc (Nat.le_refl _) _
  have hsz0 : (w1.alloc (.cells (madeCells #[.int .u8 0] nn) 5)).heap.size = w1.heap.size + 1 := by simp
  have HO0 := Lib.hid ho0
  have HB0 := Lib.hid hb0
  have HSZ0 := Lib.hid hsz0
  clear ho0 hb0 hsz0
  have hlt : w.heap.size < w1.heap.size := hwl
  have hlnO : ([] : List Int).length ≤ 0 := Nat.le_refl _
  have e1 : IntKind.i64.wrap (4 * (c.ts.length : Int)) = 4 * (c.ts.length : Int) := IntWalk.i64_in _ (by omega)
  go_wp2_with (first
    | (refine wpList_append_rc rfl (.tmp 27) (.tmp 28) 24 rfl w1.heap.size 5 i0 (.int .u8 0) 1 1 Try.underlying24 hi hz hsz hby rfl (by decide) _ 0 [] rfl (World.ownsRow.alloc HO0.out _) _ 4 (byteVals [239, 0, 1, 1]) rfl (rc_bytes_at _ [239, 0, 1, 1] (by show 4 ≤ 1000; decide) (by first | rfl | simp)) (byteVals_one _) (by unfold maxLen; omega) (by omega) (by first | omega | (simp <;> omega)) ?_
       intro vA wA hoA0 hgA _
       have hbA := grown_below (l := []) (World.ownsRow.alloc HO0.out _) (HB0.out.alloc (by have := HSZ0.out; omega) _) (Nat.le_refl _) (by first | omega | (simp <;> omega)) hgA
       have hoA : OB wA w1.heap.size vA [239, 0, 1, 1] := hoA0
       have hsA : w1.heap.size ≤ wA.heap.size := by have := hbA.size; omega
       have hltA : w.heap.size < wA.heap.size := by have := HWL.out; omega
       have kA := C0.out _ hbA
       have hlnA : ([239, 0, 1, 1] : List Int).length ≤ 4 := Nat.le_refl _))
  ((with_reducible refine (put2k _ hoA hsA (by omega)).mono ?_))
  rintro _ wB ⟨vB, rfl, hoB, hkB, huB⟩
  have hbB := PutPost.below hoA hkB hbA (Nat.le_refl _) hsA
  have hsB : w1.heap.size ≤ wB.heap.size := by have := hbB.size; omega
  have hltB : w.heap.size < wB.heap.size := by have := HWL.out; omega
  clear hkB huB
  have hlnB : ([239, 0, 1, 1] ++ be2 (4 * (c.ts.length : Int))).length ≤ 4 + 2 := len_app hlnA (Nat.le_refl 2)
  go_wp2_with (first
    | (refine wpList_append_rc rfl (.tmp 35) (.tmp 36) 24 rfl w1.heap.size 5 i0 (.int .u8 0) 1 1 Try.underlying24 hi hz hsz hby rfl (by decide) _ _ _ rfl (World.ownsRow.alloc hoB _) _ 1 (byteVals ([2])) rfl (rc_bytes_at _ [2] (by show 1 ≤ 1000; decide) (by first | rfl | simp)) (byteVals_one _) (by unfold maxLen; omega) (by omega) (by first | omega | (simp <;> omega)) ?_
       intro vC wC hoC0 hgC _
       have hbC := grown_below (World.ownsRow.alloc hoB _) (hbB.alloc (by first | omega | (simp; omega)) _) (Nat.le_refl _) (by first | omega | (simp <;> omega)) hgC
       have hoC := OB.mk hoC0
       have hsC : w1.heap.size ≤ wC.heap.size := by have := hbC.size; omega
       have hltC : w.heap.size < wC.heap.size := by have := HWL.out; omega
       clear hoC0 hgC
       have kC := C1.out _ hbC
       have hlnC := len_app hlnB (show ([2] : List Int).length ≤ 1 from Nat.le_refl _)))
  ((with_reducible refine (put2k _ hoC hsC (by omega)).mono ?_))
  rintro _ wD ⟨vD, rfl, hoD, hkD, huD⟩
  have hbD := PutPost.below hoC hkD hbC (Nat.le_refl _) hsC
  have hsD : w1.heap.size ≤ wD.heap.size := by have := hbD.size; omega
  have hltD : w.heap.size < wD.heap.size := by have := HWL.out; omega
  clear hkD huD
  have kD := C1.out _ hbD
  have ho := hoD.to (show _ = ser1 c by rw [HT.out]; simp [ser1])
  have hb := hbD
  have hs := hsD
  clear hlt
  have hlt := hltD
  clear hoA hbA hsA hltA hlnA kA hoB hbB hsB hltB hlnB hoC hbC hsC hltC hlnC kC hoD hbD
  go_wp2_with fail
  clear kD
  go_loopw [6, 46] (fun r i wr => ∃ k : Nat, k ≤ c.codes.length ∧ i = .int .i64 k ∧ OB wr w1.heap.size r (ser1 c ++ lens2 (c.codes.take k)) ∧ Below w1.heap.size w1 wr) (fun _ i _ => c.codes.length - (intOf i).toNat)
  case atStart => exact ⟨0, by omega, rfl, by simpa [lens2] using ho, hb⟩
  case round =>
    clear ho hb hs hlt
    obtain ⟨k, hk, rfl, ho, hb⟩ := hrel
    have hs : w1.heap.size ≤ wr.heap.size := by have := hb.size; omega
    have hlt : w.heap.size < wr.heap.size := by have := HWL.out; omega
    have hq1 := C1.out _ hb
    have hq2 := C2.out _ hb
    by_cases hlk : k < c.codes.length
    · have hto := Lib.hid (lens2_snoc hlk)
      have hln : (ser1 c ++ lens2 (c.codes.take k)).length ≤ 10 + 2 * 1024 := len_app (by simp [ser1, be2]) (by rw [lens2_len, List.length_take]; omega)
      have hci := HCI.out k hlk
      have hcc := CELLS.out _ _ (HCC.out k hlk) _ hb
      obtain ⟨ae, ce, hge⟩ := (HCR.out k hlk).len
      rw [hge] at hcc
      clear hge
      go_wp2_with fail
      ((with_reducible refine (put2k _ ho hs (by omega)).mono ?_))
      rintro _ wA ⟨vA, rfl, hoA, hkA, huA⟩
      have hbA := PutPost.below ho hkA hb (Nat.le_refl _) hs
      have hsA : w1.heap.size ≤ wA.heap.size := by have := hbA.size; omega
      have hltA : w.heap.size < wA.heap.size := by have := HWL.out; omega
      clear hkA huA
      go_wp2_with fail
      have hbZ := hbA
      have hoZ := hoA.to (show _ = ser1 c ++ lens2 (c.codes.take (k + 1)) by rw [hto.out, ← List.append_assoc])
      exact ⟨⟨k + 1, by omega, by go_num, hoZ, hbZ⟩, by simp [intOf]; omega⟩

    · have hk2 : k = c.codes.length := by omega
      subst hk2
      rw [List.take_length] at ho
      go_upto_if 58 with fail
      go_cut [6] (fun s6 wx => OB wx (w1.heap.size) s6 (ser1 c ++ lens2 c.codes ++ ser2 c) ∧ Below (w1.heap.size) w1 wx)
      case first =>
        by_cases h0 : 0 < c.subs.length
        · have hss : ser2 c = [3] ++ be2 (c.subs.length : Int) ++ lens4 c.subs := if_pos h0
          have hln : (ser1 c ++ lens2 c.codes).length ≤ 2058 := by simp only [List.length_append, lens2_len, ser1, be2, List.length_cons, List.length_nil]; omega
          go_wp2_with fail
          have kS := C2.out _ hb.drew
          have kS0 := C2.out _ hb
          go_region_held3 (fun w' => w'.cell? ⟨w.heap.size, 2, none⟩ = some (.slice as_ c.subs.length cs))
            (first | with_reducible exact kS | go_keep)
            (first
              | (refine step_append_rc rfl (.tmp 59) (.tmp 60) 24 rfl w1.heap.size 5 i0 (.int .u8 0) 1 1 Try.underlying24 hi hz hsz hby rfl (by decide) _ _ _ rfl (ho.alloc _).drew _ 1 (byteVals ([3])) rfl (rc_bytes_at _ [3] (by show 1 ≤ 1000; decide) (by first | rfl | simp)).drew (byteVals_one _) (by unfold maxLen; omega) (by omega) (by first | omega | (simp <;> omega)) ?_
                 intro vA wA hoA0 hgA hatA0
                 have hatA := Lib.hid hatA0
                 clear hatA0
                 have hbA := grown_below (ho.alloc _).drew (hb.alloc (by first | omega | (simp; omega)) _).drew (Nat.le_refl _) (by first | omega | (simp <;> omega)) hgA
                 have hoA := OB.mk hoA0
                 clear hoA0
                 have hlnA := len_app hln (show ([3]).length ≤ 1 from Nat.le_refl _)
                 have hsA : w1.heap.size ≤ wA.heap.size := by have := hbA.size; omega
                 have hltA : w.heap.size < wA.heap.size := by have := HWL.out; omega
                 have HGA := Lib.hid hgA
                 clear hgA
                 have kS := C2.out _ hbA)
              | (go_at_call 27
                 refine (put2k _ hoA (by first | omega | (simp <;> omega)) (by omega)).mono ?_
                 rintro _ wB ⟨vB, rfl, hoB, hkB, huB⟩
                 have hbB := PutPost.below hoA hkB hbA (Nat.le_refl _) (by first | omega | (simp <;> omega))
                 have hsB : w1.heap.size ≤ wB.heap.size := by have := hbB.size; omega
                 have hltB : w.heap.size < wB.heap.size := by have := HWL.out; omega
                 have HKB := Lib.hid hkB
                 have HUB := Lib.hid huB
                 clear hkB huB
                 have kS := C2.out _ hbB))
          have ho := hoB.to (show _ = ser1 c ++ lens2 c.codes ++ ([3] ++ be2 (c.subs.length : Int)) by simp only [List.append_assoc])
          have hb := hbB
          have hs := hsB
          have hlt := hltB
          have hq2 := C2.out _ hb
          clear kS0
          go_wp2_with fail
          clear hq2
          go_loopw [6, 69] (fun r i wr => ∃ k : Nat, k ≤ c.subs.length ∧ i = .int .i64 k ∧ OB wr w1.heap.size r (ser1 c ++ lens2 c.codes ++ ([3] ++ be2 (c.subs.length : Int)) ++ lens4 (c.subs.take k)) ∧ Below w1.heap.size w1 wr) (fun _ i _ => c.subs.length - (intOf i).toNat)
          case atStart => exact ⟨0, by omega, rfl, by simpa [lens4] using ho, hb⟩
          case round =>
            clear ho hb hs hlt
            obtain ⟨k, hk, rfl, ho, hb⟩ := hrel
            have hs : w1.heap.size ≤ wr.heap.size := by have := hb.size; omega
            have hlt : w.heap.size < wr.heap.size := by have := HWL.out; omega
            have hq1 := C2.out _ hb
            by_cases hlk : k < c.subs.length
            · have hto := Lib.hid (lens4_snoc hlk)
              have hln : (ser1 c ++ lens2 c.codes ++ ([3] ++ be2 (c.subs.length : Int)) ++ lens4 (c.subs.take k)).length ≤ 10 + 2048 + 3 + 4 * 256 := by simp only [List.length_append, lens2_len, lens4_len, List.length_take, ser1, be2, List.length_cons, List.length_nil]; omega
              have hci := HSI.out k hlk
              have hcc := CELLS.out _ _ (HSC.out k hlk) _ hb
              obtain ⟨ae, ce, hge⟩ := (HSR.out k hlk).len
              rw [hge] at hcc
              clear hge
              go_wp2_with fail
              ((with_reducible refine (put4k _ ho hs (by omega)).mono ?_))
              rintro _ wA ⟨vA, rfl, hoA, hkA, huA⟩
              have hbA := PutPost.below ho hkA hb (Nat.le_refl _) hs
              have hsA : w1.heap.size ≤ wA.heap.size := by have := hbA.size; omega
              have hltA : w.heap.size < wA.heap.size := by have := HWL.out; omega
              clear hkA huA
              go_wp2_with fail
              have hbZ := hbA
              have hoZ := hoA.to (show _ = ser1 c ++ lens2 c.codes ++ ([3] ++ be2 (c.subs.length : Int)) ++ lens4 (c.subs.take (k + 1)) by rw [hto.out]; simp only [List.append_assoc])
              exact ⟨⟨k + 1, by omega, by go_num, hoZ, hbZ⟩, by simp [intOf]; omega⟩

            · have hk2 : k = c.subs.length := by omega
              subst hk2
              rw [List.take_length] at ho
              go_wp2_with fail
              go_meet
              exact ⟨ho.to (by rw [hss]; simp only [List.append_assoc]), hb⟩
        · have hss : ser2 c = [] := if_neg h0
          have h00 : c.subs.length = 0 := by omega
          rw [h00] at hq2
          go_wp2_with fail
          go_meet
          exact ⟨ho.to (by rw [hss]; simp), hb⟩

      case rest =>
        obtain ⟨ho, hb⟩ := hcut
        have hs : w1.heap.size ≤ wc.heap.size := by have := hb.size; omega
        have hlt : w.heap.size < wc.heap.size := by have := HWL.out; omega
        have S2L := Lib.hid (show (ser2 c).length ≤ 1027 by unfold ser2; split <;> simp [be2, lens4_len] <;> omega)
        have FL1 := Lib.hid (flat_len (fun i hi => HM.out.code2 i hi) c.codes.length (Nat.le_refl _))
        have FL2 := Lib.hid (flat_len (fun i hi => HSM.out.sub i hi) c.subs.length (Nat.le_refl _))
        rw [List.take_length] at FL1 FL2
        have hln : (ser1 c ++ lens2 c.codes ++ ser2 c).length ≤ 3085 := by simp only [List.length_append, lens2_len, ser1, be2, List.length_cons, List.length_nil]; have := S2L.out; omega
        go_wp2_with fail
        go_cut [6] (fun s6 wx => OB wx (w1.heap.size) s6 (ser1 c ++ lens2 c.codes ++ ser2 c ++ ser3 c) ∧ Below (w1.heap.size) w1 wx)
        case first =>
          have kS := C4.out _ hb.drew
          have kS0 := C4.out _ hb
          go_region_held3 (fun w' => w'.cell? ⟨w.heap.size, 4, none⟩ = some (.int .i64 c.size))
            (first | with_reducible exact kS | go_keep)
            (first
              | (refine step_append_rc rfl (.tmp 78) (.tmp 79) 24 rfl w1.heap.size 5 i0 (.int .u8 0) 1 1 Try.underlying24 hi hz hsz hby rfl (by decide) _ _ _ rfl (by first | exact (ho.alloc _).drew | exact ((ho.alloc _).alloc _).drew | exact ho.drew) _ 1 (byteVals ([255])) rfl (by first | exact (rc_bytes_at _ [255] (by show 1 ≤ 1000; decide) (by first | rfl | simp)).drew | exact ((rc_bytes_at _ [255] (by show 1 ≤ 1000; decide) (by first | rfl | simp)).alloc _).drew) (byteVals_one _) (by unfold maxLen; omega) (by omega) (by first | omega | (simp <;> omega)) ?_
                 intro vA wA hoA0 hgA hatA0
                 have hatA := Lib.hid hatA0
                 clear hatA0
                 have hbA := grown_below (by first | exact (ho.alloc _).drew | exact ((ho.alloc _).alloc _).drew | exact ho.drew) (by first | exact (hb.alloc (by first | omega | (simp; omega)) _).drew | exact ((hb.alloc (by first | omega | (simp; omega)) _).alloc (by first | omega | (simp; omega)) _).drew | exact hb.drew) (Nat.le_refl _) (by first | omega | (simp <;> omega)) hgA
                 have hoA := OB.mk hoA0
                 clear hoA0
                 have hlnA := len_app hln (show ([255]).length ≤ 1 from Nat.le_refl _)
                 have hsA : w1.heap.size ≤ wA.heap.size := by have := hbA.size; omega
                 have hltA : w.heap.size < wA.heap.size := by have := HWL.out; omega
                 have HGA := Lib.hid hgA
                 clear hgA
                 have kS := C4.out _ hbA)
              | (go_at_call 27
                 refine (put2k _ (by first | exact hoA | exact hoA.alloc _) (by first | omega | (simp <;> omega)) (by omega)).mono ?_
                 rintro _ wB ⟨vB, rfl, hoB, hkB, huB⟩
                 have hbB := PutPost.below (by first | exact hoA | exact hoA.alloc _) hkB (by first | exact hbA | exact hbA.alloc (by first | omega | (simp; omega)) _) (Nat.le_refl _) (by first | omega | (simp <;> omega))
                 have hsB : w1.heap.size ≤ wB.heap.size := by have := hbB.size; omega
                 have hltB : w.heap.size < wB.heap.size := by have := HWL.out; omega
                 have HKB := Lib.hid hkB
                 have HUB := Lib.hid huB
                 clear hkB huB
                 have kS := C4.out _ hbB
                 have hlnB := len_app hlnA (show (be2 c.size).length ≤ 2 from Nat.le_refl _))
              | (refine step_append_rc rfl (.tmp 83) (.tmp 84) 24 rfl w1.heap.size 5 i0 (.int .u8 0) 1 1 Try.underlying24 hi hz hsz hby rfl (by decide) _ _ _ rfl (by first | exact hoB | exact hoB.alloc _) _ 1 (byteVals ([0])) rfl (by first | exact rc_bytes_at _ [0] (by show 1 ≤ 1000; decide) (by first | rfl | simp) | (refine RC.kept (rc_bytes_at _ [0] (by show 1 ≤ 1000; decide) (by first | rfl | simp)) HKB.out ?_; (intro e; have hlo := (hoA.lt _ e).2; first | omega | (simp at hlo <;> omega))) | (refine RC.kept (RC.grown ((rc_bytes_at _ [0] (by show 1 ≤ 1000; decide) (by first | rfl | simp)).drew) HGA.out ?_ ?_) HKB.out ?_; (· (first | omega | (simp <;> omega))); (· (intro e; have hlo := (ho.lt _ e).2; first | omega | (simp at hlo <;> omega))); (· (intro e; rcases hatA.out with h | h; (· (have hlo := (ho.lt _ (h.symm.trans e)).2; first | omega | (simp at hlo <;> omega))); (· (have hlo := h.symm.trans e; simp at hlo <;> omega))))) | (refine RC.kept (RC.grown (((rc_bytes_at _ [0] (by show 1 ≤ 1000; decide) (by first | rfl | simp)).alloc _).drew) HGA.out ?_ ?_) HKB.out ?_; (· (first | omega | (simp <;> omega))); (· (intro e; have hlo := (ho.lt _ e).2; first | omega | (simp at hlo <;> omega))); (· (intro e; rcases hatA.out with h | h; (· (have hlo := (ho.lt _ (h.symm.trans e)).2; first | omega | (simp at hlo <;> omega))); (· (have hlo := h.symm.trans e; simp at hlo <;> omega)))))) (byteVals_one _) (by unfold maxLen; omega) (by omega) (by first | omega | (simp <;> omega)) ?_
                 intro vC wC hoC0 hgC hatC0
                 have hatC := Lib.hid hatC0
                 clear hatC0
                 have hbC := grown_below (by first | exact hoB | exact hoB.alloc _) (by first | exact hbB | exact hbB.alloc (by first | omega | (simp; omega)) _) (Nat.le_refl _) (by first | omega | (simp <;> omega)) hgC
                 have hoC := OB.mk hoC0
                 clear hoC0
                 have hlnC := len_app hlnB (show ([0]).length ≤ 1 from Nat.le_refl _)
                 have hsC : w1.heap.size ≤ wC.heap.size := by have := hbC.size; omega
                 have hltC : w.heap.size < wC.heap.size := by have := HWL.out; omega
                 have HGC := Lib.hid hgC
                 clear hgC
                 have kS := C4.out _ hbC))
          all_goals
            go_wp2_with fail
            go_meet
            exact ⟨hoC.to (by simp only [ser3, List.append_assoc]), hbC⟩

        case rest =>
          obtain ⟨ho, hb⟩ := hcut
          have hs : w1.heap.size ≤ wc.heap.size := by have := hb.size; omega
          have hlt : w.heap.size < wc.heap.size := by have := HWL.out; omega
          have hq0 := C0.out _ hb
          go_wp2_with fail
          clear hq0
          go_loopw [6, 89] (fun r i wr => ∃ k : Nat, k ≤ c.ts.length ∧ i = .int .i64 k ∧ OB wr w1.heap.size r (ser1 c ++ lens2 c.codes ++ ser2 c ++ ser3 c ++ types4 (c.ts.take k)) ∧ Below w1.heap.size w1 wr) (fun _ i _ => c.ts.length - (intOf i).toNat)
          case atStart => exact ⟨0, by omega, rfl, by simpa [types4] using ho, hb⟩
          case round =>
            clear ho hb hs hlt
            obtain ⟨k, hk, rfl, ho, hb⟩ := hrel
            have hs : w1.heap.size ≤ wr.heap.size := by have := hb.size; omega
            have hlt : w.heap.size < wr.heap.size := by have := HWL.out; omega
            have hq1 := C0.out _ hb
            have hq2 := C1.out _ hb
            by_cases hlk : k < c.ts.length
            · have hto := Lib.hid (types4_snoc hlk)
              have hln : (ser1 c ++ lens2 c.codes ++ ser2 c ++ ser3 c ++ types4 (c.ts.take k)).length ≤ 3000 + 1024 + 4 * 1024 := by
                simp only [List.length_append, lens2_len, types4_len, List.length_take, ser1, ser3, be2, List.length_cons, List.length_nil]; have := S2L.out; omega
              have hti := HTI.out k hlk
              obtain ⟨t1, t2, t3⟩ := HTC.out k hlk
              have q1 := CELLS.out _ _ t1 _ hb
              have q2 := CELLS.out _ _ t2 _ hb
              have q3 := CELLS.out _ _ t3 _ hb
              clear t1 t2 t3
              go_wp2_with fail
              clear q1 q2 q3
              have kT : ∀ j u, (#[.int .i64 (gt c.ts k).1, .int .i64 (gt c.ts k).2.1, .int .i64 (gt c.ts k).2.2] : Array Value)[j]? = some u → ((wr.alloc (.cells #[.int .i64 (gt c.ts k).1, .int .i64 (gt c.ts k).2.1, .int .i64 (gt c.ts k).2.2] 53)).alloc (.cells (byteVals ([(gt c.ts k).1 % 256, (gt c.ts k).2.1 % 256])).toArray 5)).drew.cell? ⟨wr.heap.size, j, none⟩ = some u := fun j u h => by
                show ((wr.alloc (.cells #[.int .i64 (gt c.ts k).1, .int .i64 (gt c.ts k).2.1, .int .i64 (gt c.ts k).2.2] 53)).alloc (.cells (byteVals ([(gt c.ts k).1 % 256, (gt c.ts k).2.1 % 256])).toArray 5)).cell? _ = _
                rw [cell_of_row _ _ _ _ _ _ (heap_alloc (heap_alloc_new wr (.cells #[.int .i64 (gt c.ts k).1, .int .i64 (gt c.ts k).2.1, .int .i64 (gt c.ts k).2.2] 53)))]; exact h
              have HT3 := Lib.hid kT
              clear kT
              have kS : (wr.alloc (.cells #[.int .i64 (gt c.ts k).1, .int .i64 (gt c.ts k).2.1, .int .i64 (gt c.ts k).2.2] 53)).drew.cell? ⟨wr.heap.size, 0, none⟩ = some (.int .i64 (gt c.ts k).1) ∧ (wr.alloc (.cells #[.int .i64 (gt c.ts k).1, .int .i64 (gt c.ts k).2.1, .int .i64 (gt c.ts k).2.2] 53)).drew.cell? ⟨wr.heap.size, 1, none⟩ = some (.int .i64 (gt c.ts k).2.1) ∧ (wr.alloc (.cells #[.int .i64 (gt c.ts k).1, .int .i64 (gt c.ts k).2.1, .int .i64 (gt c.ts k).2.2] 53)).drew.cell? ⟨wr.heap.size, 2, none⟩ = some (.int .i64 (gt c.ts k).2.2) := ⟨by show (wr.alloc (.cells #[.int .i64 (gt c.ts k).1, .int .i64 (gt c.ts k).2.1, .int .i64 (gt c.ts k).2.2] 53)).cell? _ = _; rw [cell_of_row _ _ _ _ _ _ (heap_alloc_new wr (.cells #[.int .i64 (gt c.ts k).1, .int .i64 (gt c.ts k).2.1, .int .i64 (gt c.ts k).2.2] 53))]; rfl, by show (wr.alloc (.cells #[.int .i64 (gt c.ts k).1, .int .i64 (gt c.ts k).2.1, .int .i64 (gt c.ts k).2.2] 53)).cell? _ = _; rw [cell_of_row _ _ _ _ _ _ (heap_alloc_new wr (.cells #[.int .i64 (gt c.ts k).1, .int .i64 (gt c.ts k).2.1, .int .i64 (gt c.ts k).2.2] 53))]; rfl, by show (wr.alloc (.cells #[.int .i64 (gt c.ts k).1, .int .i64 (gt c.ts k).2.1, .int .i64 (gt c.ts k).2.2] 53)).cell? _ = _; rw [cell_of_row _ _ _ _ _ _ (heap_alloc_new wr (.cells #[.int .i64 (gt c.ts k).1, .int .i64 (gt c.ts k).2.1, .int .i64 (gt c.ts k).2.2] 53))]; rfl⟩
              go_region_held3 (fun w' => w'.cell? ⟨wr.heap.size, 0, none⟩ = some (.int .i64 (gt c.ts k).1) ∧ w'.cell? ⟨wr.heap.size, 1, none⟩ = some (.int .i64 (gt c.ts k).2.1) ∧ w'.cell? ⟨wr.heap.size, 2, none⟩ = some (.int .i64 (gt c.ts k).2.2))
                (first | with_reducible exact kS | exact ⟨Kp.cell ((Kp.refl (fun _ => False) _).alloc _) kS.1 (fun h => h), Kp.cell ((Kp.refl (fun _ => False) _).alloc _) kS.2.1 (fun h => h), Kp.cell ((Kp.refl (fun _ => False) _).alloc _) kS.2.2 (fun h => h)⟩)
                (first
                  | (refine step_append_rc rfl (.tmp 93) (.tmp 100) 24 rfl w1.heap.size 5 i0 (.int .u8 0) 1 1 Try.underlying24 hi hz hsz hby rfl (by decide) _ _ _ rfl ((ho.alloc _).alloc _).drew _ 2 (byteVals ([(gt c.ts k).1 % 256, (gt c.ts k).2.1 % 256])) rfl (rc_bytes_at _ [(gt c.ts k).1 % 256, (gt c.ts k).2.1 % 256] (by show 2 ≤ 1000; decide) (by first | rfl | simp)).drew (byteVals_one _) (by unfold maxLen; omega) (by omega) (by first | omega | (simp <;> omega)) ?_
                     intro vA wA hoA0 hgA hatA0
                     have hatA := Lib.hid hatA0
                     clear hatA0
                     have hbA := grown_below ((ho.alloc _).alloc _).drew ((hb.alloc (by first | omega | (simp; omega)) _).alloc (by first | omega | (simp; omega)) _).drew (Nat.le_refl _) (by first | omega | (simp <;> omega)) hgA
                     have hoA := OB.mk hoA0
                     clear hoA0
                     have hlnA := len_app hln (show ([(gt c.ts k).1 % 256, (gt c.ts k).2.1 % 256]).length ≤ 2 from Nat.le_refl _)
                     have hsA : w1.heap.size ≤ wA.heap.size := by have := hbA.size; omega
                     have hltA : w.heap.size < wA.heap.size := by have := HWL.out; omega
                     have HGA := Lib.hid hgA
                     clear hgA
                     have kS : wA.cell? ⟨wr.heap.size, 0, none⟩ = some (.int .i64 (gt c.ts k).1) ∧ wA.cell? ⟨wr.heap.size, 1, none⟩ = some (.int .i64 (gt c.ts k).2.1) ∧ wA.cell? ⟨wr.heap.size, 2, none⟩ = some (.int .i64 (gt c.ts k).2.2) := ⟨HGA.out.cell (HT3.out 0 _ rfl) (fun e => by have h1 : wr.heap.size < wr.heap.size := (ho.lt _ e.symm).2; omega), HGA.out.cell (HT3.out 1 _ rfl) (fun e => by have h1 : wr.heap.size < wr.heap.size := (ho.lt _ e.symm).2; omega), HGA.out.cell (HT3.out 2 _ rfl) (fun e => by have h1 : wr.heap.size < wr.heap.size := (ho.lt _ e.symm).2; omega)⟩
                     have hnT : vA.ownBlock ≠ some wr.heap.size := fun e => by rcases hatA.out with h | h; (· (have h1 : wr.heap.size < wr.heap.size := (ho.lt _ (h.symm.trans e)).2; omega)); (· (have h1 := h.symm.trans e; simp at h1 <;> omega))
                     have HNT := Lib.hid hnT
                     clear hnT)
                  | (go_at_call 27
                     refine (put2k _ hoA (by first | omega | (simp <;> omega)) (by omega)).mono ?_
                     rintro _ wB ⟨vB, rfl, hoB, hkB, huB⟩
                     have hbB := PutPost.below hoA hkB hbA (Nat.le_refl _) (by first | omega | (simp <;> omega))
                     have hsB : w1.heap.size ≤ wB.heap.size := by have := hbB.size; omega
                     have hltB : w.heap.size < wB.heap.size := by have := HWL.out; omega
                     have HKB := Lib.hid hkB
                     have HUB := Lib.hid huB
                     clear hkB huB
                     have kS : wB.cell? ⟨wr.heap.size, 0, none⟩ = some (.int .i64 (gt c.ts k).1) ∧ wB.cell? ⟨wr.heap.size, 1, none⟩ = some (.int .i64 (gt c.ts k).2.1) ∧ wB.cell? ⟨wr.heap.size, 2, none⟩ = some (.int .i64 (gt c.ts k).2.2) := ⟨HKB.out.cell kS.1 HNT.out, HKB.out.cell kS.2.1 HNT.out, HKB.out.cell kS.2.2 HNT.out⟩))
              go_wp2_with fail
              have hbZ := hbB
              have hoZ := hoB.to (show _ = ser1 c ++ lens2 c.codes ++ ser2 c ++ ser3 c ++ types4 (c.ts.take (k + 1)) by rw [hto.out]; simp only [List.append_assoc])
              exact ⟨⟨k + 1, by omega, by go_num, hoZ, hbZ⟩, by simp [intOf]; omega⟩

            · have hk2 : k = c.ts.length := by omega
              subst hk2
              rw [List.take_length] at ho
              go_wp2_with fail
              go_loopw [6, 109] (fun r i wr => ∃ k : Nat, k ≤ c.codes.length ∧ i = .int .i64 k ∧ OB wr w1.heap.size r (ser1 c ++ lens2 c.codes ++ ser2 c ++ ser3 c ++ types4 c.ts ++ (c.codes.take k).flatten) ∧ Below w1.heap.size w1 wr) (fun _ i _ => c.codes.length - (intOf i).toNat)
              case atStart => exact ⟨0, by omega, rfl, by simpa [List.take_zero, List.flatten_nil, List.append_nil] using ho, hb⟩
              case round =>
                clear ho hb hs hlt
                obtain ⟨k, hk, rfl, ho, hb⟩ := hrel
                have hs : w1.heap.size ≤ wr.heap.size := by have := hb.size; omega
                have hlt : w.heap.size < wr.heap.size := by have := HWL.out; omega
                have hq1 := C1.out _ hb
                have hq2 := C2.out _ hb
                by_cases hlk : k < c.codes.length
                · have hto := Lib.hid (flat_snoc hlk)
                  have hln : (ser1 c ++ lens2 c.codes ++ ser2 c ++ ser3 c ++ types4 c.ts ++ (c.codes.take k).flatten).length ≤ 800000000 := by
                    have := flat_len (fun i hi => HM.out.code2 i hi) k hk
                    simp only [List.length_append, lens2_len, types4_len, ser1, ser3, be2, List.length_cons, List.length_nil]; have := S2L.out; omega
                  have hci := HCI.out k hlk
                  have hcc := CELLS.out _ _ (HCC.out k hlk) _ hb
                  have hsrc := Lib.hid ((HCR.out k hlk).below hb (Nat.le_refl _))
                  have hle := HM.out.code2 k hlk
                  obtain ⟨ae, ce, hge⟩ := (HCR.out k hlk).len
                  have HGE := Lib.hid hge
                  clear hge
                  go_wp2_with (refine wpList_append_rc rfl (.tmp 113) (.tmp 114) 24 rfl w1.heap.size 5 i0 (.int .u8 0) 1 1 Try.underlying24 hi hz hsz hby rfl (by decide) _ _ _ rfl ho _ (gp c.codes k).length _ rfl hsrc.out (byteVals_one _) (by unfold maxLen; omega) (by omega) (by first | omega | (simp <;> omega)) ?_; intro vA wA hoA hgA _)
                  have hbZ := grown_below ho hb (Nat.le_refl _) (by omega) hgA
                  have hoZ := (OB.mk hoA).to (show _ = ser1 c ++ lens2 c.codes ++ ser2 c ++ ser3 c ++ types4 c.ts ++ (c.codes.take (k + 1)).flatten by rw [hto.out, ← List.append_assoc])
                  exact ⟨⟨k + 1, by omega, by go_num, hoZ, hbZ⟩, by simp [intOf]; omega⟩

                · have hk2 : k = c.codes.length := by omega
                  subst hk2
                  rw [List.take_length] at ho
                  go_wp2_with fail
                  go_loopw [6, 120] (fun r i wr => ∃ k : Nat, k ≤ c.subs.length ∧ i = .int .i64 k ∧ OB wr w1.heap.size r (ser1 c ++ lens2 c.codes ++ ser2 c ++ ser3 c ++ types4 c.ts ++ c.codes.flatten ++ (c.subs.take k).flatten) ∧ Below w1.heap.size w1 wr) (fun _ i _ => c.subs.length - (intOf i).toNat)
                  case atStart => exact ⟨0, by omega, rfl, by simpa [List.take_zero, List.flatten_nil, List.append_nil] using ho, hb⟩
                  case round =>
                    clear ho hb hs hlt
                    obtain ⟨k, hk, rfl, ho, hb⟩ := hrel
                    have hs : w1.heap.size ≤ wr.heap.size := by have := hb.size; omega
                    have hlt : w.heap.size < wr.heap.size := by have := HWL.out; omega
                    have hq1 := C2.out _ hb
                    have hq2 := C3.out _ hb
                    by_cases hlk : k < c.subs.length
                    · have hto := Lib.hid (flat_snoc hlk)
                      have hln : (ser1 c ++ lens2 c.codes ++ ser2 c ++ ser3 c ++ types4 c.ts ++ c.codes.flatten ++ (c.subs.take k).flatten).length ≤ 800000000 := by
                        have := flat_len (fun i hi => HSM.out.sub i hi) k hk
                        simp only [List.length_append, lens2_len, types4_len, ser1, ser3, be2, List.length_cons, List.length_nil]; have := S2L.out; have := FL1.out; omega
                      have hci := HSI.out k hlk
                      have hcc := CELLS.out _ _ (HSC.out k hlk) _ hb
                      have hsrc := Lib.hid ((HSR.out k hlk).below hb (Nat.le_refl _))
                      have hle := HSM.out.sub k hlk
                      obtain ⟨ae, ce, hge⟩ := (HSR.out k hlk).len
                      have HGE := Lib.hid hge
                      clear hge
                      go_wp2_with (refine wpList_append_rc rfl (.tmp 124) (.tmp 125) 24 rfl w1.heap.size 5 i0 (.int .u8 0) 1 1 Try.underlying24 hi hz hsz hby rfl (by decide) _ _ _ rfl ho _ (gp c.subs k).length _ rfl hsrc.out (byteVals_one _) (by unfold maxLen; omega) (by omega) (by first | omega | (simp <;> omega)) ?_; intro vA wA hoA hgA _)
                      have hbZ := grown_below ho hb (Nat.le_refl _) (by omega) hgA
                      have hoZ := (OB.mk hoA).to (show _ = ser1 c ++ lens2 c.codes ++ ser2 c ++ ser3 c ++ types4 c.ts ++ c.codes.flatten ++ (c.subs.take (k + 1)).flatten by rw [hto.out, ← List.append_assoc])
                      exact ⟨⟨k + 1, by omega, by go_num, hoZ, hbZ⟩, by simp [intOf]; omega⟩

                    · have hk2 : k = c.subs.length := by omega
                      subst hk2
                      rw [List.take_length] at ho
                      have hln : (ser1 c ++ lens2 c.codes ++ ser2 c ++ ser3 c ++ types4 c.ts ++ c.codes.flatten ++ c.subs.flatten).length ≤ 800000000 := by simp only [List.length_append, lens2_len, types4_len, ser1, ser3, be2, List.length_cons, List.length_nil]; have := FL1.out; have := FL2.out; have := S2L.out; omega
                      go_wp2_with (refine wpList_append_rc rfl (.tmp 128) (.tmp 130) 24 rfl w1.heap.size 5 i0 (.int .u8 0) 1 1 Try.underlying24 hi hz hsz hby rfl (by decide) _ _ _ rfl ho _ c.data.length _ rfl (HD.out.below hb (Nat.le_refl _)) (byteVals_one _) (by unfold maxLen; omega) (by omega) (by first | omega | (simp <;> omega)) ?_; intro vA wA hoA hgA _)
                      have hoZ := (OB.mk hoA).to (show _ = ser c from rfl)
                      obtain ⟨az, cz, hvz⟩ := ownsRow_slice hoZ
                      have hbZ := grown_below ho hb (Nat.le_refl _) (by omega) hgA
                      subst hvz
                      have HOZ := Lib.hid hoZ
                      have HBZ := Lib.hid hbZ
                      clear hoZ hbZ hoA hgA
                      go_wp2_with fail
                      go_ret2
                      exact ⟨az, cz, rfl, World.ownsRow.mono HOZ.out (Nat.le_of_lt HWL.out), HBW.out.trans (HBZ.out.mono (Nat.le_of_lt HWL.out))⟩

end Go.Proofs.Ytalhoahkbmeeeaa
