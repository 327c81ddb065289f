/- bytes (14): the statement's own bytes of a container. -/
import Derived.Test.YtalhoahkbmeeeaaSer
import Derived.Deep.Onto
namespace Go.Proofs.Ytalhoahkbmeeeaa
open Go.RowKit

theorem OB.to {w : World} {base : Nat} {v : Value} {l l' : List Int} (h : OB w base v l) (e : l = l') : OB w base v l' := e ▸ h

theorem RC.alloc {w : World} {v : Value} {n size : Nat} {cs : List Value} (h : RC w v n size cs) (o : Obj) : RC (w.alloc o) v n size cs :=
  h.below ((Below.refl w.heap.size w).alloc (Nat.le_refl _) o) (Nat.le_refl _)

/-- a literal that an append has not written stands behind it -/
theorem RC.grown {W w' : World} {row : Option Nat} {g m cap size n : Nat} {cs : List Value} (h : RC W (.slice (some ⟨g, 0, Option.none⟩) m cap) n size cs) (hg : W.grownBy w' row) (hlt : g < W.heap.size) (hr : row ≠ some g) :
    RC w' (.slice (some ⟨g, 0, Option.none⟩) m cap) n size cs := by
  obtain ⟨hl, a, c, hv, hc, hcs⟩ := h
  refine ⟨hl, a, c, hv, hc, ?_⟩
  rcases hcs with h0 | ⟨b, off, hb, hcell⟩
  · exact .inl h0
  · refine .inr ⟨b, off, hb, fun j hj => ?_⟩
    have e : b = g := by
      injection hv with e1
      rw [← e1] at hb
      injection hb with e2
      injection e2 with e3
      exact e3.symm
    subst e
    rw [← hcell j hj]
    exact World.cell?_of_block (a := ⟨b, off + j, Option.none⟩) (hg.block b hlt (fun e => hr e.symm))

theorem rc_two_at (w : World) (n : Int) {g : Nat} (hg : g = w.heap.size) : RC (w.alloc (.cells #[.int .u8 (n / 256 % 256), .int .u8 (n % 256)] 5)) (.slice (some ⟨g, 0, Option.none⟩) 2 2) 2 1 (byteVals (be2 n)) := by
  subst hg; exact rc_two w n
theorem rc_bytes_at (w : World) (l : List Int) (h : l.length ≤ 1000) {g : Nat} (hg : g = w.heap.size) : RC (w.alloc (.cells (byteVals l).toArray 5)) (.slice (some ⟨g, 0, Option.none⟩) l.length l.length) l.length 1 (byteVals l) := by
  subst hg; exact rc_bytes w l h

/-- bytes of the call's own -/
def BytesPost (w : World) (l : List Int) (e : Ending) (w' : World) : Prop := ∃ a c, e = .returned (.slice a l.length c) ∧ OB w' w.heap.size (.slice a l.length c) l ∧ Below w.heap.size w w'

set_option maxRecDepth 100000 in
set_option maxHeartbeats 6400000 in
theorem bytes_any {w : World} {v : Value} {c : Cn} (h : RCn w v c) (hm : c.may) (hsm : c.small 2097152) :
    Calls Try.prog 14 #[v] w fun e w' => BytesPost w (ser c) e w' := by
  obtain ⟨at_, ct, ac, cc, as_, cs, ad, cd, rfl, h1, h2, h3, h4⟩ := h.open
  obtain ⟨i0, hi, hz, hsz, hby⟩ := info_parts info5
  obtain ⟨W1, hW1⟩ : ∃ W1, W1 = w.alloc (.cells #[.slice at_ c.ts.length ct, .slice ac c.codes.length cc, .slice as_ c.subs.length cs, .slice ad c.data.length cd, .int .i64 c.size] 26) := ⟨_, rfl⟩
  have hB : Below w.heap.size w W1 := by rw [hW1]; exact boxed1 w _
  have b0 : W1.cell? ⟨w.heap.size, 0, none⟩ = some (.slice at_ c.ts.length ct) := by rw [hW1, World.cell?_alloc_at _ _ _ _ rfl]; rfl
  have b1 : W1.cell? ⟨w.heap.size, 1, none⟩ = some (.slice ac c.codes.length cc) := by rw [hW1, World.cell?_alloc_at _ _ _ _ rfl]; rfl
  have b2 : W1.cell? ⟨w.heap.size, 2, none⟩ = some (.slice as_ c.subs.length cs) := by rw [hW1, World.cell?_alloc_at _ _ _ _ rfl]; rfl
  have b3 : W1.cell? ⟨w.heap.size, 3, none⟩ = some (.slice ad c.data.length cd) := by rw [hW1, World.cell?_alloc_at _ _ _ _ rfl]; rfl
  have b4 : W1.cell? ⟨w.heap.size, 4, none⟩ = some (.int .i64 c.size) := by rw [hW1, World.cell?_alloc_at _ _ _ _ rfl]; rfl
  have hz1 : W1.heap.size = w.heap.size + 1 := by rw [hW1]; simp
  obtain ⟨-, bc, oc, uc, -, hci, hcc, hcr⟩ := (h2.below hB (Nat.le_refl _)).at
  obtain ⟨-, bs, os, us, -, hsi, hsc, hsr⟩ := (h3.below hB (Nat.le_refl _)).at
  obtain ⟨-, bt, ot, hti, htc⟩ := (h1.below hB (Nat.le_refl _)).at
  have HD := Lib.hid (h4.below hB (Nat.le_refl _))
  have HB := Lib.hid hB
  have B0 := Lib.hid b0
  have B1 := Lib.hid b1
  have B2 := Lib.hid b2
  have B3 := Lib.hid b3
  have B4 := Lib.hid b4
  have HCI := Lib.hid hci
  have HSI := Lib.hid hsi
  have HTI := Lib.hid hti
  have HCC := Lib.hid hcc
  have HSC := Lib.hid hsc
  have HTC := Lib.hid htc
  have HCR := Lib.hid hcr
  have HSR := Lib.hid hsr
  have HM := Lib.hid hm
  have HSM := Lib.hid hsm
  have m1 := hm.codes2
  have m2 := hm.subs
  have m3 : c.ts.length ≤ 1024 := by have := hm.types; omega
  have m4 := hsm.data
  have m5 := hm.size
  have HT := Lib.hid hm.types
  clear hB b0 b1 b2 b3 b4 hci hsi hti hcc hsc htc hcr hsr hm hsm h1 h2 h3 h4 h
  go_enter Try.func14, Try.ntmps14
  go_wp2_with fail
  rw [← hW1]
  obtain ⟨v2, hv2⟩ : ∃ v2, v2 = Value.slice (some ⟨w.heap.size + 1, 0, none⟩) 3 3 := ⟨_, rfl⟩
  obtain ⟨wc, hwc⟩ : ∃ wc, wc = W1.alloc (.cells #[.int .u8 239, .int .u8 0, .int .u8 1] 5) := ⟨_, rfl⟩
  have ho : OB wc (w.heap.size + 1) v2 [239, 0, 1] := by
    rw [hwc, hv2, ← hz1]
    exact World.ownsRow_lit W1 #[.int .u8 239, .int .u8 0, .int .u8 1] 3 (Nat.le_refl _) (by unfold maxLen; omega) rfl
  have hb : Below (w.heap.size + 1) W1 wc := by rw [hwc, ← hz1]; exact (Below.refl _ _).alloc (Nat.le_refl _) _
  have hs : w.heap.size + 1 ≤ wc.heap.size := by rw [hwc, ← hz1]; simp
  have hln : ([239, 0, 1] : List Int).length ≤ 3 := by decide
  have hlt : w.heap.size < wc.heap.size := hs
  rw [← hv2, ← hwc]
  clear hv2 hwc hW1
  have HZ := Lib.hid hz1
  clear hz1
  have cells := fun {a : Addr} {u : Value} (hc : W1.cell? a = some u) (W : World) (hb : Below (w.heap.size + 1) W1 W) => cell_below hb (by have := HZ.out; omega) hc
  have C0 := Lib.hid (cells B0.out)
  have C1 := Lib.hid (cells B1.out)
  have C2 := Lib.hid (cells B2.out)
  have C3 := Lib.hid (cells B3.out)
  have C4 := Lib.hid (cells B4.out)
  have CELLS := Lib.hid (fun (a : Addr) (u : Value) (hc : W1.cell? a = some u) (W : World) (hb : Below (w.heap.size + 1) W1 W) => cells hc W hb)
  clear cells

  go_cut [3] (fun s3 wx => OB wx (w.heap.size + 1) s3 ([239, 0, 1] ++ ([1] ++ be2 (4 * (c.codes.length : Int)))) ∧ Below (w.heap.size + 1) W1 wx)
  case first =>
    have e1 : IntKind.i64.wrap (4 * (c.codes.length : Int)) = 4 * (c.codes.length : Int) := IntWalk.i64_in _ (by omega)
    have kS := C1.out _ hb.drew
    have kS0 := C1.out _ hb
    go_region_held3 (fun w' => w'.cell? ⟨w.heap.size, 1, none⟩ = some (.slice ac c.codes.length cc))
      (first | with_reducible exact kS | go_keep)
      (first
        | (refine step_append_rc rfl (.tmp 11) (.tmp 12) 24 rfl (w.heap.size + 1) 5 i0 (.int .u8 0) 1 1 Try.underlying24 hi hz hsz hby rfl (by decide) _ _ _ rfl (ho.alloc _).drew _ 1 _ rfl (rc_bytes wc [1] (by decide)).drew (byteVals_one _) (by unfold maxLen; omega) (by omega) (by simp <;> omega) ?_
           intro vA wA hoA0 hgA _
           have hbA := grown_below (ho.alloc _).drew ((hb.alloc (by first | omega | (simp; omega)) _).drew) (Nat.le_refl _) (by simp <;> omega) hgA
           have hoA := OB.mk hoA0
           have hlnA := len_app hln (show ([1]).length ≤ 1 from Nat.le_refl _)
           have hsA : w.heap.size + 1 ≤ wA.heap.size := by have := hgA.size; simp at this; omega
           have hltA : w.heap.size < wA.heap.size := hsA
           have kS := C1.out _ hbA)
        | (go_at_call 28; refine (two_any _ _).mono ?_; rintro e w' ⟨rfl, rfl⟩)
        | (refine step_append_rc rfl (.tmp 13) (.tmp 18) 24 rfl (w.heap.size + 1) 5 i0 (.int .u8 0) 1 1 Try.underlying24 hi hz hsz hby rfl (by decide) _ _ _ rfl (hoA.alloc _) _ 2 _ rfl (rc_two wA (4 * (c.codes.length : Int))) (byteVals_one _) (by unfold maxLen; omega) (by omega) (by simp <;> omega) ?_
           intro vB wB hoB0 hgB _
           have hbB := grown_below (hoA.alloc _) (hbA.alloc (by first | omega | (simp; omega)) _) (Nat.le_refl _) (by simp <;> omega) hgB
           have hoB := OB.mk hoB0
           have hlnB := len_app hlnA (show (be2 (4 * (c.codes.length : Int))).length ≤ 2 from Nat.le_refl _)
           have hsB : w.heap.size + 1 ≤ wB.heap.size := by have := hgB.size; simp at this; omega
           have hltB : w.heap.size < wB.heap.size := hsB
           have kS := C1.out _ hbB))
    go_wp2_with fail
    go_meet
    exact ⟨by rw [← List.append_assoc]; exact hoB, hbB⟩
  case rest =>
    obtain ⟨ho, hb⟩ := hcut
    have hs : w.heap.size + 1 ≤ wc.heap.size := by have := hb.size; have := HZ.out; omega
    have hlt : w.heap.size < wc.heap.size := hs
    have hln : ([239, 0, 1] ++ ([1] ++ be2 (4 * (c.codes.length : Int)))).length ≤ 6 := by simp [be2]
    go_wp2_with fail
    go_cut [3] (fun s3 wx => OB wx (w.heap.size + 1) s3 ([239, 0, 1] ++ ([1] ++ be2 (4 * (c.codes.length : Int))) ++ ([2] ++ be2 (c.codes.length : Int))) ∧ Below (w.heap.size + 1) W1 wx)
    case first =>
      have kS := C1.out _ hb.drew
      have kS0 := C1.out _ hb
      go_region_held3 (fun w' => w'.cell? ⟨w.heap.size, 1, none⟩ = some (.slice ac c.codes.length cc))
        (first | with_reducible exact kS | go_keep)
        (first
          | (refine step_append_rc rfl (.tmp 20) (.tmp 21) 24 rfl (w.heap.size + 1) 5 i0 (.int .u8 0) 1 1 Try.underlying24 hi hz hsz hby rfl (by decide) _ _ _ rfl (ho.alloc _).drew _ 1 _ rfl (rc_bytes wc [2] (by decide)).drew (byteVals_one _) (by unfold maxLen; omega) (by omega) (by simp <;> omega) ?_
             intro vA wA hoA0 hgA _
             have hbA := grown_below (ho.alloc _).drew ((hb.alloc (by first | omega | (simp; omega)) _).drew) (Nat.le_refl _) (by simp <;> omega) hgA
             have hoA := OB.mk hoA0
             have hlnA := len_app hln (show ([2]).length ≤ 1 from Nat.le_refl _)
             have hsA : w.heap.size + 1 ≤ wA.heap.size := by have := hgA.size; simp at this; omega
             have hltA : w.heap.size < wA.heap.size := hsA
             have kS := C1.out _ hbA)
          | (go_at_call 28; refine (two_any _ _).mono ?_; rintro e w' ⟨rfl, rfl⟩)
          | (refine step_append_rc rfl (.tmp 22) (.tmp 26) 24 rfl (w.heap.size + 1) 5 i0 (.int .u8 0) 1 1 Try.underlying24 hi hz hsz hby rfl (by decide) _ _ _ rfl (hoA.alloc _) _ 2 _ rfl (rc_two wA (c.codes.length : Int)) (byteVals_one _) (by unfold maxLen; omega) (by omega) (by simp <;> omega) ?_
             intro vB wB hoB0 hgB _
             have hbB := grown_below (hoA.alloc _) (hbA.alloc (by first | omega | (simp; omega)) _) (Nat.le_refl _) (by simp <;> omega) hgB
             have hoB := OB.mk hoB0
             have hlnB := len_app hlnA (show (be2 (c.codes.length : Int)).length ≤ 2 from Nat.le_refl _)
             have hsB : w.heap.size + 1 ≤ wB.heap.size := by have := hgB.size; simp at this; omega
             have hltB : w.heap.size < wB.heap.size := hsB
             have kS := C1.out _ hbB))
      go_wp2_with fail
      go_meet
      exact ⟨by rw [← List.append_assoc]; exact hoB, hbB⟩
    case rest =>
      obtain ⟨ho, hb⟩ := hcut
      have hs : w.heap.size + 1 ≤ wc.heap.size := by have := hb.size; have := HZ.out; omega
      have hlt : w.heap.size < wc.heap.size := hs
      have ho := ho.to (show _ = ser1 c by simp [ser1])
      go_wp2_with fail
      go_loopw [3, 4] (fun r i wr => ∃ k : Nat, k ≤ c.codes.length ∧ i = .int .i64 k ∧ OB wr (w.heap.size + 1) r (ser1 c ++ lens2 (c.codes.take k)) ∧ Below (w.heap.size + 1) W1 wr) (fun _ i _ => c.codes.length - (intOf i).toNat)
      case atStart => exact ⟨0, by omega, rfl, by simpa [lens2] using ho, hb⟩
      case round =>
        clear ho hb hs hlt
        obtain ⟨k, hk, rfl, ho, hb⟩ := hrel
        have hs : w.heap.size + 1 ≤ wr.heap.size := by have := hb.size; have := HZ.out; omega
        have hlt : w.heap.size < wr.heap.size := hs
        have hq1 := C1.out _ hb
        have hq2 := C2.out _ hb
        by_cases hlk : k < c.codes.length
        · have hto := Lib.hid (lens2_snoc hlk)
          have hln : (ser1 c ++ lens2 (c.codes.take k)).length ≤ 10 + 2 * 1024 := len_app (by simp [ser1, be2]) (by rw [lens2_len, List.length_take]; omega)
          have hci := HCI.out k hlk
          have hcc := CELLS.out _ _ (HCC.out k hlk) _ hb
          obtain ⟨ae, ce, hge⟩ := (HCR.out k hlk).len
          rw [hge] at hcc
          clear hge
          go_wp2_with (first
            | (go_at_call 28; refine (two_any _ _).mono ?_; rintro e w' ⟨rfl, rfl⟩)
            | (refine wpList_append_rc rfl (.tmp 35) (.tmp 42) 24 rfl (w.heap.size + 1) 5 i0 (.int .u8 0) 1 1 Try.underlying24 hi hz hsz hby rfl (by decide) _ _ _ rfl (World.ownsRow.alloc ho _) _ 2 _ rfl (rc_two wr ((gp c.codes k).length : Int)) (byteVals_one _) (by unfold maxLen; omega) (by omega) (by first | omega | (simp <;> omega)) ?_; intro vA wA hoA hgA _))
          have hbZ := grown_below (World.ownsRow.alloc ho _) (hb.alloc hs _) (Nat.le_refl _) (by simp <;> omega) hgA
          have hoZ := (OB.mk hoA).to (show _ = ser1 c ++ lens2 (c.codes.take (k + 1)) by rw [hto.out, ← List.append_assoc])
          exact ⟨⟨k + 1, by omega, by go_num, hoZ, hbZ⟩, by simp [intOf]; omega⟩

        · have hk2 : k = c.codes.length := by omega
          subst hk2
          rw [List.take_length] at ho
          go_upto_if 47 with fail
          go_cut [3] (fun s3 wx => OB wx (w.heap.size + 1) s3 (ser1 c ++ lens2 c.codes ++ ser2 c) ∧ Below (w.heap.size + 1) W1 wx)
          case first =>
            by_cases h0 : 0 < c.subs.length
            · have hss : ser2 c = [3] ++ be2 (c.subs.length : Int) ++ lens4 c.subs := if_pos h0
              have hln : (ser1 c ++ lens2 c.codes).length ≤ 2058 := by simp only [List.length_append, lens2_len, ser1, be2, List.length_cons, List.length_nil]; omega
              go_wp2_with fail
              go_cut [3] (fun s3 wx => OB wx (w.heap.size + 1) s3 (ser1 c ++ lens2 c.codes ++ ([3] ++ be2 (c.subs.length : Int))) ∧ Below (w.heap.size + 1) W1 wx)
              case first =>
                have kS := C2.out _ hb.drew
                have kS0 := C2.out _ hb
                go_region_held3 (fun w' => w'.cell? ⟨w.heap.size, 2, none⟩ = some (.slice as_ c.subs.length cs))
                  (first | with_reducible exact kS | go_keep)
                  (first
                    | (refine step_append_rc rfl (.tmp 48) (.tmp 49) 24 rfl (w.heap.size + 1) 5 i0 (.int .u8 0) 1 1 Try.underlying24 hi hz hsz hby rfl (by decide) _ _ _ rfl (ho.alloc _).drew _ 1 _ rfl (rc_bytes wr [3] (by decide)).drew (byteVals_one _) (by unfold maxLen; omega) (by omega) (by simp <;> omega) ?_
                       intro vA wA hoA0 hgA _
                       have hbA := grown_below (ho.alloc _).drew ((hb.alloc (by first | omega | (simp; omega)) _).drew) (Nat.le_refl _) (by simp <;> omega) hgA
                       have hoA := OB.mk hoA0
                       have hlnA := len_app hln (show ([3]).length ≤ 1 from Nat.le_refl _)
                       have hsA : w.heap.size + 1 ≤ wA.heap.size := by have := hgA.size; simp at this; omega
                       have hltA : w.heap.size < wA.heap.size := hsA
                       have kS := C2.out _ hbA)
                    | (go_at_call 28; refine (two_any _ _).mono ?_; rintro e w' ⟨rfl, rfl⟩)
                    | (refine step_append_rc rfl (.tmp 50) (.tmp 54) 24 rfl (w.heap.size + 1) 5 i0 (.int .u8 0) 1 1 Try.underlying24 hi hz hsz hby rfl (by decide) _ _ _ rfl (hoA.alloc _) _ 2 _ rfl (rc_two wA (c.subs.length : Int)) (byteVals_one _) (by unfold maxLen; omega) (by omega) (by simp <;> omega) ?_
                       intro vB wB hoB0 hgB _
                       have hbB := grown_below (hoA.alloc _) (hbA.alloc (by first | omega | (simp; omega)) _) (Nat.le_refl _) (by simp <;> omega) hgB
                       have hoB := OB.mk hoB0
                       have hlnB := len_app hlnA (show (be2 (c.subs.length : Int)).length ≤ 2 from Nat.le_refl _)
                       have hsB : w.heap.size + 1 ≤ wB.heap.size := by have := hgB.size; simp at this; omega
                       have hltB : w.heap.size < wB.heap.size := hsB
                       have kS := C2.out _ hbB))
                go_wp2_with fail
                go_meet
                exact ⟨by rw [← List.append_assoc]; exact hoB, hbB⟩
              case rest =>
                obtain ⟨ho, hb⟩ := hcut
                have hs : w.heap.size + 1 ≤ wc.heap.size := by have := hb.size; have := HZ.out; omega
                have hlt : w.heap.size < wc.heap.size := hs
                have ho := ho.to (show _ = ser1 c ++ lens2 c.codes ++ [3] ++ be2 (c.subs.length : Int) by simp only [List.append_assoc])
                go_wp2_with fail
                go_loopw [3, 5, 6] (fun r i n wr => ∃ k : Nat, k ≤ c.subs.length ∧ i = .int .i64 k ∧ OB wr (w.heap.size + 1) r (ser1 c ++ lens2 c.codes ++ [3] ++ be2 (c.subs.length : Int) ++ lens4 (c.subs.take k)) ∧ Below (w.heap.size + 1) W1 wr) (fun _ i _ _ => c.subs.length - (intOf i).toNat)
                case atStart => exact ⟨0, by omega, rfl, by simpa [lens4] using ho, hb⟩
                case round =>
                  clear ho hb hs hlt
                  obtain ⟨k, hk, rfl, ho, hb⟩ := hrel
                  have hs : w.heap.size + 1 ≤ wr.heap.size := by have := hb.size; have := HZ.out; omega
                  have hlt : w.heap.size < wr.heap.size := hs
                  have hq1 := C2.out _ hb
                  by_cases hlk : k < c.subs.length
                  · have hto := Lib.hid (lens4_snoc hlk)
                    have hln : (ser1 c ++ lens2 c.codes ++ [3] ++ be2 (c.subs.length : Int) ++ lens4 (c.subs.take k)).length ≤ 10 + 2048 + 3 + 4 * 256 := by simp only [List.length_append, lens2_len, lens4_len, List.length_take, ser1, be2, List.length_cons, List.length_nil]; omega
                    have hci := HSI.out k hlk
                    have hcc := CELLS.out _ _ (HSC.out k hlk) _ hb
                    obtain ⟨ae, ce, hge⟩ := (HSR.out k hlk).len
                    rw [hge] at hcc
                    clear hge
                    go_wp2_with (first
                      | (go_at_call 28; refine (two_any _ _).mono ?_; rintro e w' ⟨rfl, rfl⟩)
                      | (refine wpList_append_rc rfl (.tmp 69) (.tmp 72) 24 rfl (w.heap.size + 1) 5 i0 (.int .u8 0) 1 1 Try.underlying24 hi hz hsz hby rfl (by decide) _ _ _ rfl (World.ownsRow.alloc ho _) _ 2 _ rfl (rc_two wr ((gp c.subs k).length / 65536 : Int)) (byteVals_one _) (by unfold maxLen; omega) (by omega) (by first | omega | (simp <;> omega)) ?_; intro vA wA hoA hgA _
                         have hsA : w.heap.size + 1 ≤ wA.heap.size := by have := hgA.size; simp at this; omega
                         have hoA := OB.mk hoA
                         have hlnA := len_app hln (show (be2 ((gp c.subs k).length / 65536 : Int)).length ≤ 2 from Nat.le_refl _))
                      | (refine wpList_append_rc rfl (.tmp 73) (.tmp 75) 24 rfl (w.heap.size + 1) 5 i0 (.int .u8 0) 1 1 Try.underlying24 hi hz hsz hby rfl (by decide) _ _ _ rfl (World.ownsRow.alloc hoA _) _ 2 _ rfl (rc_two wA ((gp c.subs k).length : Int)) (byteVals_one _) (by unfold maxLen; omega) (by omega) (by first | omega | (simp <;> omega)) ?_; intro vB wB hoB hgB _))
                    have hbA := grown_below (World.ownsRow.alloc ho _) (hb.alloc hs _) (Nat.le_refl _) (by simp <;> omega) hgA
                    have hbZ := grown_below (World.ownsRow.alloc hoA _) (hbA.alloc hsA _) (Nat.le_refl _) (by simp <;> omega) hgB
                    have hoZ := (OB.mk hoB).to (show _ = ser1 c ++ lens2 c.codes ++ [3] ++ be2 (c.subs.length : Int) ++ lens4 (c.subs.take (k + 1)) by rw [hto.out, ← be4_two]; simp only [List.append_assoc])
                    exact ⟨⟨k + 1, by omega, by go_num, hoZ, hbZ⟩, by simp [intOf]; omega⟩

                  · have hk2 : k = c.subs.length := by omega
                    subst hk2
                    rw [List.take_length] at ho
                    go_wp2_with fail
                    go_meet
                    exact ⟨ho.to (by rw [hss]; simp only [List.append_assoc]), hb⟩
            · have hss : ser2 c = [] := if_neg h0
              have h00 : c.subs.length = 0 := by omega
              rw [h00] at hq2
              go_wp2_with fail
              go_meet
              exact ⟨ho.to (by rw [hss]; simp), hb⟩

          case rest =>
            obtain ⟨ho, hb⟩ := hcut
            have hs : w.heap.size + 1 ≤ wc.heap.size := by have := hb.size; have := HZ.out; omega
            have hlt : w.heap.size < wc.heap.size := hs
            have S2L := Lib.hid (show (ser2 c).length ≤ 1027 by unfold ser2; split <;> simp [be2, lens4_len] <;> omega)
            have FL1 := Lib.hid (flat_len (fun i hi => HM.out.code2 i hi) c.codes.length (Nat.le_refl _))
            have FL2 := Lib.hid (flat_len (fun i hi => HSM.out.sub i hi) c.subs.length (Nat.le_refl _))
            rw [List.take_length] at FL1 FL2
            have hln : (ser1 c ++ lens2 c.codes ++ ser2 c).length ≤ 3085 := by simp only [List.length_append, lens2_len, ser1, be2, List.length_cons, List.length_nil]; have := S2L.out; omega
            go_wp2_with fail
            go_cut [3] (fun s3 wx => OB wx (w.heap.size + 1) s3 (ser1 c ++ lens2 c.codes ++ ser2 c ++ ser3 c) ∧ Below (w.heap.size + 1) W1 wx)
            case first =>
              have kS := C4.out _ hb.drew
              have kS0 := C4.out _ hb
              go_region_held3 (fun w' => w'.cell? ⟨w.heap.size, 4, none⟩ = some (.int .i64 c.size))
                (first | with_reducible exact kS | go_keep)
                (first
                  | (refine step_append_rc rfl (.tmp 77) (.tmp 78) 24 rfl (w.heap.size + 1) 5 i0 (.int .u8 0) 1 1 Try.underlying24 hi hz hsz hby rfl (by decide) _ _ _ rfl (by first | exact (ho.alloc _).drew | exact ((ho.alloc _).alloc _).drew | exact ho.drew) _ 1 (byteVals ([255])) rfl (by first | exact (rc_bytes_at _ [255] (by show 1 ≤ 1000; decide) (by first | rfl | simp)).drew | exact ((rc_bytes_at _ [255] (by show 1 ≤ 1000; decide) (by first | rfl | simp)).alloc _).drew) (byteVals_one _) (by unfold maxLen; omega) (by omega) (by first | omega | (simp <;> omega)) ?_
                     intro vA wA hoA0 hgA hatA0
                     have hatA := Lib.hid hatA0
                     clear hatA0
                     have hbA := grown_below (by first | exact (ho.alloc _).drew | exact ((ho.alloc _).alloc _).drew | exact ho.drew) (by first | exact (hb.alloc (by first | omega | (simp; omega)) _).drew | exact ((hb.alloc (by first | omega | (simp; omega)) _).alloc (by first | omega | (simp; omega)) _).drew | exact hb.drew) (Nat.le_refl _) (by first | omega | (simp <;> omega)) hgA
                     have hoA := OB.mk hoA0
                     clear hoA0
                     have hlnA := len_app hln (show ([255]).length ≤ 1 from Nat.le_refl _)
                     have hsA : w.heap.size + 1 ≤ wA.heap.size := by have := hgA.size; (try simp at this); omega
                     have hltA : w.heap.size < wA.heap.size := hsA
                     have kS := C4.out _ hbA
                     have HGA := Lib.hid hgA
                     clear hgA)
                  | (go_at_call 28; refine (two_any _ _).mono ?_; rintro e w' ⟨rfl, rfl⟩)
                  | (refine step_append_rc rfl (.tmp 79) (.tmp 82) 24 rfl (w.heap.size + 1) 5 i0 (.int .u8 0) 1 1 Try.underlying24 hi hz hsz hby rfl (by decide) _ _ _ rfl (by first | exact (hoA.alloc _) | exact ((hoA.alloc _).alloc _) | exact hoA) _ 2 (byteVals (be2 c.size)) rfl (by first | exact rc_two_at _ c.size (by first | rfl | simp) | exact (rc_two_at _ c.size (by first | rfl | simp)).alloc _) (byteVals_one _) (by unfold maxLen; omega) (by omega) (by first | omega | (simp <;> omega)) ?_
                     intro vB wB hoB0 hgB hatB0
                     have hatB := Lib.hid hatB0
                     clear hatB0
                     have hbB := grown_below (by first | exact (hoA.alloc _) | exact ((hoA.alloc _).alloc _) | exact hoA) (by first | exact (hbA.alloc (by first | omega | (simp; omega)) _) | exact ((hbA.alloc (by first | omega | (simp; omega)) _).alloc (by first | omega | (simp; omega)) _) | exact hbA) (Nat.le_refl _) (by first | omega | (simp <;> omega)) hgB
                     have hoB := OB.mk hoB0
                     clear hoB0
                     have hlnB := len_app hlnA (show (be2 c.size).length ≤ 2 from Nat.le_refl _)
                     have hsB : w.heap.size + 1 ≤ wB.heap.size := by have := hgB.size; (try simp at this); omega
                     have hltB : w.heap.size < wB.heap.size := hsB
                     have kS := C4.out _ hbB
                     have HGB := Lib.hid hgB
                     clear hgB)
                  | (refine step_append_rc rfl (.tmp 83) (.tmp 84) 24 rfl (w.heap.size + 1) 5 i0 (.int .u8 0) 1 1 Try.underlying24 hi hz hsz hby rfl (by decide) _ _ _ rfl (by first | exact hoB | exact hoB.alloc _) _ 1 (byteVals ([0])) rfl (by first | exact rc_bytes_at _ [0] (by show 1 ≤ 1000; decide) (by first | rfl | simp) | (refine RC.grown (rc_bytes_at _ [0] (by show 1 ≤ 1000; decide) (by first | rfl | simp)) HGB.out ?_ ?_; (· (first | omega | (simp <;> omega))); (· (intro e; have hlo := (hoA.lt _ e).2; first | omega | (simp at hlo <;> omega)))) | (refine RC.grown ((rc_bytes_at _ [0] (by show 1 ≤ 1000; decide) (by first | rfl | simp)).alloc _) HGB.out ?_ ?_; (· (first | omega | (simp <;> omega))); (· (intro e; have hlo := (hoA.lt _ e).2; first | omega | (simp at hlo <;> omega)))) | (refine RC.grown (RC.alloc (RC.grown ((rc_bytes_at _ [0] (by show 1 ≤ 1000; decide) (by first | rfl | simp)).drew) HGA.out ?_ ?_) _) HGB.out ?_ ?_; (· (first | omega | (simp <;> omega))); (· (intro e; have hlo := (ho.lt _ e).2; first | omega | (simp at hlo <;> omega))); (· (have := HGA.out.size; first | omega | (simp at this ⊢ <;> omega))); (· (intro e; rcases hatA.out with h | h; (· (have hlo := (ho.lt _ (h.symm.trans e)).2; first | omega | (simp at hlo <;> omega))); (· (have hlo := h.symm.trans e; simp at hlo <;> omega))))) | (refine RC.grown (RC.alloc (RC.grown (((rc_bytes_at _ [0] (by show 1 ≤ 1000; decide) (by first | rfl | simp)).alloc _).drew) HGA.out ?_ ?_) _) HGB.out ?_ ?_; (· (first | omega | (simp <;> omega))); (· (intro e; have hlo := (ho.lt _ e).2; first | omega | (simp at hlo <;> omega))); (· (have := HGA.out.size; first | omega | (simp at this ⊢ <;> omega))); (· (intro e; rcases hatA.out with h | h; (· (have hlo := (ho.lt _ (h.symm.trans e)).2; first | omega | (simp at hlo <;> omega))); (· (have hlo := h.symm.trans e; simp at hlo <;> omega)))))) (byteVals_one _) (by unfold maxLen; omega) (by omega) (by first | omega | (simp <;> omega)) ?_
                     intro vC wC hoC0 hgC hatC0
                     have hatC := Lib.hid hatC0
                     clear hatC0
                     have hbC := grown_below (by first | exact hoB | exact hoB.alloc _) (by first | exact hbB | exact hbB.alloc (by first | omega | (simp; omega)) _) (Nat.le_refl _) (by first | omega | (simp <;> omega)) hgC
                     have hoC := OB.mk hoC0
                     clear hoC0
                     have hlnC := len_app hlnB (show ([0]).length ≤ 1 from Nat.le_refl _)
                     have hsC : w.heap.size + 1 ≤ wC.heap.size := by have := hgC.size; (try simp at this); omega
                     have hltC : w.heap.size < wC.heap.size := hsC
                     have kS := C4.out _ hbC
                     have HGC := Lib.hid hgC
                     clear hgC))
              all_goals
                go_wp2_with fail
                go_meet
                exact ⟨hoC.to (by simp only [ser3, List.append_assoc]), hbC⟩
            case rest =>
              obtain ⟨ho, hb⟩ := hcut
              have hs : w.heap.size + 1 ≤ wc.heap.size := by have := hb.size; have := HZ.out; omega
              have hlt : w.heap.size < wc.heap.size := hs
              go_wp2_with fail
              go_loopw [3, 7] (fun r i wr => ∃ k : Nat, k ≤ c.ts.length ∧ i = .int .i64 k ∧ OB wr (w.heap.size + 1) r (ser1 c ++ lens2 c.codes ++ ser2 c ++ ser3 c ++ types4 (c.ts.take k)) ∧ Below (w.heap.size + 1) W1 wr) (fun _ i _ => c.ts.length - (intOf i).toNat)
              case atStart => exact ⟨0, by omega, rfl, by simpa [types4] using ho, hb⟩
              case round =>
                clear ho hb hs hlt
                obtain ⟨k, hk, rfl, ho, hb⟩ := hrel
                have hs : w.heap.size + 1 ≤ wr.heap.size := by have := hb.size; have := HZ.out; omega
                have hlt : w.heap.size < wr.heap.size := hs
                have hq1 := C0.out _ hb
                have hq2 := C1.out _ hb
                by_cases hlk : k < c.ts.length
                · have hto := Lib.hid (types4_snoc hlk)
                  have hln : (ser1 c ++ lens2 c.codes ++ ser2 c ++ ser3 c ++ types4 (c.ts.take k)).length ≤ 3000 + 1024 + 4 * 1024 := by
                    simp only [List.length_append, lens2_len, types4_len, List.length_take, ser1, ser3, be2, List.length_cons, List.length_nil]; have := S2L.out; omega
                  have hti := HTI.out k hlk
                  obtain ⟨t1, t2, t3⟩ := HTC.out k hlk
                  have T1 := Lib.hid t1
                  have T2 := Lib.hid t2
                  have T3 := Lib.hid t3
                  clear t1 t2 t3
                  have kSf : ∀ W, Below (w.heap.size + 1) W1 W → (fun w' : World => w'.cell? ⟨w.heap.size, 0, none⟩ = some (.slice at_ c.ts.length ct) ∧ w'.cell? ⟨bt, ot + k * 3, none⟩ = some (.int .i64 (gt c.ts k).1) ∧ w'.cell? ⟨bt, ot + k * 3 + 1, none⟩ = some (.int .i64 (gt c.ts k).2.1) ∧ w'.cell? ⟨bt, ot + k * 3 + 2, none⟩ = some (.int .i64 (gt c.ts k).2.2)) W := fun W hb => ⟨C0.out _ hb, CELLS.out _ _ T1.out _ hb, CELLS.out _ _ T2.out _ hb, CELLS.out _ _ T3.out _ hb⟩
                  go_wp2_with fail
                  have kS := kSf _ hb.drew
                  have kS0 := kSf _ hb
                  go_region_held3 (fun w' => w'.cell? ⟨w.heap.size, 0, none⟩ = some (.slice at_ c.ts.length ct) ∧ w'.cell? ⟨bt, ot + k * 3, none⟩ = some (.int .i64 (gt c.ts k).1) ∧ w'.cell? ⟨bt, ot + k * 3 + 1, none⟩ = some (.int .i64 (gt c.ts k).2.1) ∧ w'.cell? ⟨bt, ot + k * 3 + 2, none⟩ = some (.int .i64 (gt c.ts k).2.2))
                    (first | with_reducible exact kS | go_keep)
                    (first
                      | (refine step_append_rc rfl (.tmp 93) (.tmp 108) 24 rfl (w.heap.size + 1) 5 i0 (.int .u8 0) 1 1 Try.underlying24 hi hz hsz hby rfl (by decide) _ _ _ rfl (ho.alloc _).drew _ 2 _ rfl (rc_bytes wr [(gt c.ts k).1 % 256, (gt c.ts k).2.1 % 256] (by show 2 ≤ 1000; decide)).drew (byteVals_one _) (by unfold maxLen; omega) (by omega) (by simp <;> omega) ?_
                         intro vA wA hoA0 hgA _
                         have hbA := grown_below (ho.alloc _).drew ((hb.alloc (by first | omega | (simp; omega)) _).drew) (Nat.le_refl _) (by simp <;> omega) hgA
                         have hoA := OB.mk hoA0
                         have hlnA := len_app hln (show ([(gt c.ts k).1 % 256, (gt c.ts k).2.1 % 256]).length ≤ 2 from Nat.le_refl _)
                         have hsA : w.heap.size + 1 ≤ wA.heap.size := by have := hgA.size; simp at this; omega
                         have hltA : w.heap.size < wA.heap.size := hsA
                         have kS := kSf _ hbA)
                      | (go_at_call 28; refine (two_any _ _).mono ?_; rintro e w' ⟨rfl, rfl⟩)
                      | (refine step_append_rc rfl (.tmp 109) (.tmp 116) 24 rfl (w.heap.size + 1) 5 i0 (.int .u8 0) 1 1 Try.underlying24 hi hz hsz hby rfl (by decide) _ _ _ rfl (hoA.alloc _) _ 2 _ rfl (rc_two wA ((gt c.ts k).2.2)) (byteVals_one _) (by unfold maxLen; omega) (by omega) (by simp <;> omega) ?_
                         intro vB wB hoB0 hgB _
                         have hbB := grown_below (hoA.alloc _) (hbA.alloc (by first | omega | (simp; omega)) _) (Nat.le_refl _) (by simp <;> omega) hgB
                         have hoB := OB.mk hoB0
                         have hlnB := len_app hlnA (show (be2 ((gt c.ts k).2.2)).length ≤ 2 from Nat.le_refl _)
                         have hsB : w.heap.size + 1 ≤ wB.heap.size := by have := hgB.size; simp at this; omega
                         have hltB : w.heap.size < wB.heap.size := hsB
                         have kS := kSf _ hbB))

                  go_wp2_with fail
                  have hbZ := hbB
                  have hoZ := hoB.to (show _ = ser1 c ++ lens2 c.codes ++ ser2 c ++ ser3 c ++ types4 (c.ts.take (k + 1)) by rw [hto.out]; simp only [List.append_assoc])
                  exact ⟨⟨k + 1, by omega, by go_num, hoZ, hbZ⟩, by simp [intOf]; omega⟩

                · have hk2 : k = c.ts.length := by omega
                  subst hk2
                  rw [List.take_length] at ho
                  go_wp2_with fail
                  go_loopw [3, 8] (fun r i wr => ∃ k : Nat, k ≤ c.codes.length ∧ i = .int .i64 k ∧ OB wr (w.heap.size + 1) r (ser1 c ++ lens2 c.codes ++ ser2 c ++ ser3 c ++ types4 c.ts ++ (c.codes.take k).flatten) ∧ Below (w.heap.size + 1) W1 wr) (fun _ i _ => c.codes.length - (intOf i).toNat)
                  case atStart => exact ⟨0, by omega, rfl, by simpa [List.take_zero, List.flatten_nil, List.append_nil] using ho, hb⟩
                  case round =>
                    clear ho hb hs hlt
                    obtain ⟨k, hk, rfl, ho, hb⟩ := hrel
                    have hs : w.heap.size + 1 ≤ wr.heap.size := by have := hb.size; have := HZ.out; omega
                    have hlt : w.heap.size < wr.heap.size := hs
                    have hq1 := C1.out _ hb
                    have hq2 := C2.out _ hb
                    by_cases hlk : k < c.codes.length
                    · have hto := Lib.hid (flat_snoc hlk)
                      have hln : (ser1 c ++ lens2 c.codes ++ ser2 c ++ ser3 c ++ types4 c.ts ++ (c.codes.take k).flatten).length ≤ 800000000 := by
                        have := flat_len (fun i hi => HM.out.code2 i hi) k hk
                        simp only [List.length_append, lens2_len, types4_len, ser1, ser3, be2, List.length_cons, List.length_nil]; have := S2L.out; omega
                      have hci := HCI.out k hlk
                      have hcc := CELLS.out _ _ (HCC.out k hlk) _ hb
                      have hsrc := Lib.hid ((HCR.out k hlk).below hb (by have := HZ.out; omega))
                      have hle := HM.out.code2 k hlk
                      go_wp2_with (refine wpList_append_rc rfl (.tmp 125) (.tmp 130) 24 rfl (w.heap.size + 1) 5 i0 (.int .u8 0) 1 1 Try.underlying24 hi hz hsz hby rfl (by decide) _ _ _ rfl ho _ (gp c.codes k).length _ rfl hsrc.out (byteVals_one _) (by unfold maxLen; omega) (by omega) (by first | omega | (simp <;> omega)) ?_; intro vA wA hoA hgA _)
                      have hbZ := grown_below ho hb (Nat.le_refl _) (by omega) hgA
                      have hoZ := (OB.mk hoA).to (show _ = ser1 c ++ lens2 c.codes ++ ser2 c ++ ser3 c ++ types4 c.ts ++ (c.codes.take (k + 1)).flatten by rw [hto.out, ← List.append_assoc])
                      exact ⟨⟨k + 1, by omega, by go_num, hoZ, hbZ⟩, by simp [intOf]; omega⟩

                    · have hk2 : k = c.codes.length := by omega
                      subst hk2
                      rw [List.take_length] at ho
                      go_wp2_with fail
                      go_loopw [3, 9] (fun r i wr => ∃ k : Nat, k ≤ c.subs.length ∧ i = .int .i64 k ∧ OB wr (w.heap.size + 1) r (ser1 c ++ lens2 c.codes ++ ser2 c ++ ser3 c ++ types4 c.ts ++ c.codes.flatten ++ (c.subs.take k).flatten) ∧ Below (w.heap.size + 1) W1 wr) (fun _ i _ => c.subs.length - (intOf i).toNat)
                      case atStart => exact ⟨0, by omega, rfl, by simpa [List.take_zero, List.flatten_nil, List.append_nil] using ho, hb⟩
                      case round =>
                        clear ho hb hs hlt
                        obtain ⟨k, hk, rfl, ho, hb⟩ := hrel
                        have hs : w.heap.size + 1 ≤ wr.heap.size := by have := hb.size; have := HZ.out; omega
                        have hlt : w.heap.size < wr.heap.size := hs
                        have hq1 := C2.out _ hb
                        have hq2 := C3.out _ hb
                        by_cases hlk : k < c.subs.length
                        · have hto := Lib.hid (flat_snoc hlk)
                          have hln : (ser1 c ++ lens2 c.codes ++ ser2 c ++ ser3 c ++ types4 c.ts ++ c.codes.flatten ++ (c.subs.take k).flatten).length ≤ 800000000 := by
                            have := flat_len (fun i hi => HSM.out.sub i hi) k hk
                            simp only [List.length_append, lens2_len, types4_len, ser1, ser3, be2, List.length_cons, List.length_nil]; have := S2L.out; have := FL1.out; omega
                          have hci := HSI.out k hlk
                          have hcc := CELLS.out _ _ (HSC.out k hlk) _ hb
                          have hsrc := Lib.hid ((HSR.out k hlk).below hb (by have := HZ.out; omega))
                          have hle := HSM.out.sub k hlk
                          go_wp2_with (refine wpList_append_rc rfl (.tmp 139) (.tmp 144) 24 rfl (w.heap.size + 1) 5 i0 (.int .u8 0) 1 1 Try.underlying24 hi hz hsz hby rfl (by decide) _ _ _ rfl ho _ (gp c.subs k).length _ rfl hsrc.out (byteVals_one _) (by unfold maxLen; omega) (by omega) (by first | omega | (simp <;> omega)) ?_; intro vA wA hoA hgA _)
                          have hbZ := grown_below ho hb (Nat.le_refl _) (by omega) hgA
                          have hoZ := (OB.mk hoA).to (show _ = ser1 c ++ lens2 c.codes ++ ser2 c ++ ser3 c ++ types4 c.ts ++ c.codes.flatten ++ (c.subs.take (k + 1)).flatten by rw [hto.out, ← List.append_assoc])
                          exact ⟨⟨k + 1, by omega, by go_num, hoZ, hbZ⟩, by simp [intOf]; omega⟩

                        · have hk2 : k = c.subs.length := by omega
                          subst hk2
                          rw [List.take_length] at ho
                          have hln : (ser1 c ++ lens2 c.codes ++ ser2 c ++ ser3 c ++ types4 c.ts ++ c.codes.flatten ++ c.subs.flatten).length ≤ 800000000 := by simp only [List.length_append, lens2_len, types4_len, ser1, ser3, be2, List.length_cons, List.length_nil]; have := FL1.out; have := FL2.out; have := S2L.out; omega
                          go_wp2_with (refine wpList_append_rc rfl (.tmp 146) (.tmp 148) 24 rfl (w.heap.size + 1) 5 i0 (.int .u8 0) 1 1 Try.underlying24 hi hz hsz hby rfl (by decide) _ _ _ rfl ho _ c.data.length _ rfl (HD.out.below hb (by have := HZ.out; omega)) (byteVals_one _) (by unfold maxLen; omega) (by omega) (by first | omega | (simp <;> omega)) ?_; intro vA wA hoA hgA _)
                          go_ret
                          have hoZ := (OB.mk hoA).to (show _ = ser c from rfl)
                          obtain ⟨az, cz, hvz⟩ := ownsRow_slice hoZ
                          have hbZ := grown_below ho hb (Nat.le_refl _) (by omega) hgA
                          subst hvz
                          exact ⟨az, cz, rfl, World.ownsRow.mono hoZ (Nat.le_succ _), HB.out.trans (hbZ.mono (Nat.le_succ _))⟩


end Go.Proofs.Ytalhoahkbmeeeaa
