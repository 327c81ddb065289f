/- parts (39), bounds (40) and its six closures (41 to 46), at a container that may be. -/
import Derived.Test.YtalhoahkbmeeeaaMay
import Derived.Laws.EntriesVeiled
namespace Go.Proofs.Ytalhoahkbmeeeaa
open Go.RowKit

set_option maxHeartbeats 800000 in
theorem parts_any {w : World} {a : Option Addr} {cp : Nat} {ll : List (List Int)} {most : Int} (h : RP w (.slice a ll.length cp) ll) (hl : ll.length ≤ 1000000000)
    (h1 : ∀ k, k < ll.length → 1 ≤ (gp ll k).length) (h2 : ∀ k, k < ll.length → ((gp ll k).length : Int) ≤ most) (h3 : ∀ k, k < ll.length → (gp ll k).length ≤ 4294967295) :
    Calls Try.prog 39 #[.slice a ll.length cp, .int .i64 most] w fun e w' => e = .returned (.int .i64 0) ∧ w' = w := by
  obtain ⟨-, b, off, vs, -, hi, hc, hr⟩ := h.at
  have hcl : ∀ k, k < ll.length → ∃ a cp, gv vs k = .slice a (gp ll k).length cp := fun k hk => (hr k hk).len
  have HI := Lib.hid hi
  have HC := Lib.hid hc
  have HL := Lib.hid hcl
  have H1 := Lib.hid h1
  have H2 := Lib.hid h2
  have H3 := Lib.hid h3
  clear hi hc hcl h1 h2 h3 hr h
  go_enter Try.func39, Try.ntmps39
  go_wp2
  go_loop [6, 9] (fun _ i => ∃ k : Nat, k ≤ ll.length ∧ i = .int .i64 k) (fun _ i => ll.length - (intOf i).toNat)
  case atStart => exact ⟨0, by omega, rfl⟩
  case round =>
    obtain ⟨k, hk, rfl⟩ := hrel
    by_cases hlt : k < ll.length
    · have hi := HI.out k hlt
      have hc := HC.out k hlt
      obtain ⟨ae, ce, hge⟩ := HL.out k hlt
      rw [hge] at hc
      clear hge
      have q1 := H1.out k hlt
      have q2 := H2.out k hlt
      have q3 := H3.out k hlt
      have q4 : (((gp ll k).length : Int) == 0) = false := by rw [beq_eq_false_iff_ne]; omega
      go_wp2
      exact ⟨⟨k + 1, by omega, by go_num⟩, by simp [intOf]; omega⟩
    · go_wp2
      go_ret
      exact ⟨rfl, rfl⟩

def boundsVal : Value := .agg #[.int .i64 1, .func (.func 41) #[] #[], .func (.func 42) #[] #[], .int .i64 1, .func (.func 43) #[] #[], .func (.func 44) #[] #[], .int .i64 2, .func (.func 45) #[] #[], .func (.func 46) #[] #[]]

theorem bounds_any (w : World) : Calls Try.prog 40 #[] w fun e w' => e = .returned boundsVal ∧ Below w.heap.size w w' := by
  unfold boundsVal
  go_enter Try.func40, Try.ntmps40
  go_wp2
  exact bodyPost_ret (v := .agg #[.int .i64 1, .func (.func 41) #[] #[], .func (.func 42) #[] #[], .int .i64 1, .func (.func 43) #[] #[], .func (.func 44) #[] #[], .int .i64 2, .func (.func 45) #[] #[], .func (.func 46) #[] #[]])
    (by simp [results, Try.results40, go_sem]) rfl ⟨rfl, (Below.refl _ _).alloc (Nat.le_refl _) _⟩

theorem fits41 (first : Bool) (v : Int) (w : World) (h0 : 0 ≤ v) (h1 : v ≤ 127) (h2 : first = true → v = 0) : Calls Try.prog 41 #[.bool first, .int .i64 v] w fun e w' => e = .returned (.bool true) ∧ w' = w := by
  cases first with
  | false =>
    clear h2
    go_enter Try.func41, Try.ntmps41
    go_wp2
    go_ret
    exact ⟨rfl, rfl⟩
  | true =>
    obtain rfl := h2 rfl
    clear h2
    go_enter Try.func41, Try.ntmps41
    go_wp2
    go_ret
    exact ⟨rfl, rfl⟩

theorem fits43 (first : Bool) (v : Int) (w : World) (h0 : 0 ≤ v) (h1 : v ≤ 128) (h2 : first = true → v = 128) : Calls Try.prog 43 #[.bool first, .int .i64 v] w fun e w' => e = .returned (.bool true) ∧ w' = w := by
  cases first with
  | false =>
    clear h2
    go_enter Try.func43, Try.ntmps43
    go_wp2
    go_ret
    exact ⟨rfl, rfl⟩
  | true =>
    obtain rfl := h2 rfl
    clear h2
    go_enter Try.func43, Try.ntmps43
    go_wp2
    go_ret
    exact ⟨rfl, rfl⟩

theorem fits45 (first : Bool) (v : Int) (w : World) (h0 : 0 ≤ v) (h1 : v ≤ 1023) : Calls Try.prog 45 #[.bool first, .int .i64 v] w fun e w' => e = .returned (.bool true) ∧ w' = w := by
  go_enter Try.func45, Try.ntmps45
  go_wp2
  go_ret
  exact ⟨rfl, rfl⟩

theorem value42 (b off : Nat) (w : World) : Calls Try.prog 42 #[.pointer (some ⟨b, off, none⟩)] w fun e w' => e = .returned (.pointer (some ⟨b, off, none⟩)) ∧ w' = w := by
  go_enter Try.func42, Try.ntmps42
  go_wp2
  go_ret
  exact ⟨rfl, rfl⟩

theorem value44 (b off : Nat) (w : World) : Calls Try.prog 44 #[.pointer (some ⟨b, off, none⟩)] w fun e w' => e = .returned (.pointer (some ⟨b, off + 1, none⟩)) ∧ w' = w := by
  go_enter Try.func44, Try.ntmps44
  go_wp2
  go_ret
  exact ⟨rfl, rfl⟩

theorem value46 (b off : Nat) (w : World) : Calls Try.prog 46 #[.pointer (some ⟨b, off, none⟩)] w fun e w' => e = .returned (.pointer (some ⟨b, off + 2, none⟩)) ∧ w' = w := by
  go_enter Try.func46, Try.ntmps46
  go_wp2
  go_ret
  exact ⟨rfl, rfl⟩

end Go.Proofs.Ytalhoahkbmeeeaa
