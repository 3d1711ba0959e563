/- The reference's May. -/
import Derived.Test.YtgkloacfickeaaaRefFree
namespace Go.Proofs.Ytgkloacfickeaaa
open Go.RowKit
set_option linter.unusedVariables false

/-- A power of two that the loop comes to. -/
def Step (x : Int) : Prop := x = 1 ∨ x = 2 ∨ x = 4 ∨ x = 8 ∨ x = 16 ∨ x = 32 ∨ x = 64 ∨ x = 128 ∨ x = 256 ∨ x = 512 ∨ x = 1024 ∨ x = 2048
theorem Step.two {x : Int} (h : Step x) (hx : x ≤ 1024) : Step (x * 2) := by unfold Step at *; omega
theorem Step.lo {x : Int} (h : Step x) : 1 ≤ x ∧ x ≤ 2048 := by unfold Step at *; omega
theorem Step.next {x al : Int} (h : Step x) (hx : x ≤ 1024) (hn : isPow2 al = true → x ≤ al) (hne : x ≠ al) : isPow2 al = true → x * 2 ≤ al := by
  intro hp
  have h1 := hn hp
  have h2 := pow2_cases hp
  unfold Step at h
  rcases h2 with h2 | h2 | h2 | h2 | h2 | h2 | h2 | h2 | h2 | h2 | h2 <;> omega
theorem Step.is {x : Int} (h : Step x) (hx : x ≤ 1024) : isPow2 x = true := by
  unfold Step at h
  rcases h with h | h | h | h | h | h | h | h | h | h | h | h <;> first | (subst h; decide) | omega
theorem may_at {a n al : Int} (h1 : n ≤ 1048576) (h2 : a ≤ 1048576) (h3 : a + max n 1 ≤ 1048576) (hp : isPow2 al = true) : (a % al == 0) = mayB a n al := by
  unfold mayB
  rw [Bool.eq_iff_iff]
  simp only [beq_iff_eq, decide_eq_true_eq]
  exact ⟨fun h => ⟨h1, h2, h3, hp, h⟩, fun h => h.2.2.2.2⟩
theorem may_none {a n al : Int} (h : isPow2 al = true → False) : false = mayB a n al := by
  unfold mayB
  rw [Bool.eq_iff_iff]
  simp only [Bool.false_eq_true, decide_eq_true_eq, false_iff]
  rintro ⟨_, _, _, hp, _⟩
  exact h hp
theorem may_no4 {a n al : Int} (h : ¬ (n ≤ 1048576 ∧ a ≤ 1048576 ∧ a + max n 1 ≤ 1048576)) : false = mayB a n al := by
  unfold mayB
  rw [Bool.eq_iff_iff]
  simp only [Bool.false_eq_true, decide_eq_true_eq, false_iff]
  rintro ⟨h1, h2, h3, _⟩
  exact h ⟨h1, h2, h3⟩

set_option maxHeartbeats 2000000 in
theorem rmay_any (a n al : Int) (w : World) (a0 : 0 ≤ a) (a1 : a ≤ 18446744073709551615) (n0 : 0 ≤ n) (n1 : n ≤ 18446744073709551615) (l0 : 0 ≤ al) (l1 : al ≤ 18446744073709551615) :
    Calls Try.prog 40 #[.agg #[.int .u64 a, .int .u64 n, .int .u64 al]] w fun e w' => e = .returned (.bool (mayB a n al)) ∧ Below w.heap.size w w' := by
  have HCR := Lib.hid (cells_regrown (W := w.alloc (.cells #[.int .u64 a, .int .u64 n, .int .u64 al] 35)) (b := w.heap.size) (by simp))
  by_cases h1 : n ≤ 1048576
  · have hd1 : decide (1048576 < n) = false := by simpa using h1
    by_cases h2 : a ≤ 1048576
    · have hd2 : decide (1048576 < a) = false := by simpa using h2
      by_cases h3 : a + max n 1 ≤ 1048576
      · have hd3 : decide (1048576 < a + max n 1) = false := by simpa using h3
        go_enter Try.func40, Try.ntmps40
        go_wp2
        have hcr := HCR.out
        refine wp_region_quiet_below (by kernel_rfl) (by kernel_rfl) ?_
        repeat (go_big_quiet_step ((go_at_call 39; exact Calls.regrown_of (takes_any _ _ _ _))))
        refine wpQuiet_nil ?_
        intro W2 hw2
        have hb2 : Below (w.alloc (.cells #[.int .u64 a, .int .u64 n, .int .u64 al] 35)).heap.size (w.alloc (.cells #[.int .u64 a, .int .u64 n, .int .u64 al] 35)) W2 := by obtain ⟨⟨dq, osq⟩, rfl⟩ := hw2; exact below_regrown _ _ _
        clear hw2 hcr
        have HB2 := Lib.hid hb2
        clear hb2
        have hc2 : ∀ o, W2.cell? ⟨w.heap.size, o, none⟩ = (w.alloc (.cells #[.int .u64 a, .int .u64 n, .int .u64 al] 35)).cell? ⟨w.heap.size, o, none⟩ := fun o => HB2.out.cell (p := ⟨w.heap.size, o, none⟩) (by simp)
        have hz2 : w.heap.size < W2.heap.size := by have := HB2.out.size; simp at this; omega
        go_wp2
        go_loopw [3] (fun x wr => ∃ k : Int, x = .int .u64 k ∧ Step k ∧ (isPow2 al = true → k ≤ al) ∧ wr = W2) (fun x _ => (2049 - intOf x).toNat)
        case atStart => exact ⟨1, rfl, .inl rfl, fun h => by rcases pow2_cases h with h | h | h | h | h | h | h | h | h | h | h <;> omega, rfl⟩
        case round =>
          obtain ⟨k, rfl, hst, hno, rfl⟩ := hrel
          obtain ⟨hk1, hk2⟩ := hst.lo
          have HST := Lib.hid hst
          have HNO := Lib.hid hno
          clear hst hno
          by_cases hx : k ≤ 1024
          · by_cases he : k = al
            · subst he
              go_wp2
              go_ret
              exact ⟨ret_bool (may_at h1 h2 h3 (HST.out.is hx)), ((Below.refl _ w).alloc (Nat.le_refl _) _).trans (HB2.out.mono (by simp))⟩
            · have hne : (k == al) = false := by simpa using he
              go_wp2
              go_roundw
              case rel => exact ⟨k * 2, rfl, HST.out.two hx, HST.out.next hx HNO.out he, by trivial⟩
              case measure => simp [intOf]; omega
          · go_wp2
            go_ret
            exact ⟨ret_bool (may_none (fun hp => by have := HNO.out hp; rcases pow2_cases hp with h | h | h | h | h | h | h | h | h | h | h <;> omega)), ((Below.refl _ w).alloc (Nat.le_refl _) _).trans (HB2.out.mono (by simp))⟩
      · have hd3 : decide (1048576 < a + max n 1) = true := by simpa using h3
        go_enter Try.func40, Try.ntmps40
        go_wp2
        have hcr := HCR.out
        refine wp_region_quiet_below (by kernel_rfl) (by kernel_rfl) ?_
        repeat (go_big_quiet_step ((go_at_call 39; exact Calls.regrown_of (takes_any _ _ _ _))))
        refine wpQuiet_nil ?_
        intro W2 hw2
        have hb2 : Below (w.alloc (.cells #[.int .u64 a, .int .u64 n, .int .u64 al] 35)).heap.size (w.alloc (.cells #[.int .u64 a, .int .u64 n, .int .u64 al] 35)) W2 := by obtain ⟨⟨dq, osq⟩, rfl⟩ := hw2; exact below_regrown _ _ _
        clear hw2 hcr
        have HB2 := Lib.hid hb2
        clear hb2
        go_wp2
        go_ret
        exact ⟨ret_bool (may_no4 (by omega)), ((Below.refl _ w).alloc (Nat.le_refl _) _).trans (HB2.out.mono (by simp))⟩
    · have hd2 : decide (1048576 < a) = true := by simpa using h2
      go_enter Try.func40, Try.ntmps40
      go_wp2
      have hcr := HCR.out
      refine wp_region_quiet_below (by kernel_rfl) (by kernel_rfl) ?_
      repeat (go_big_quiet_step ((go_at_call 39; exact Calls.regrown_of (takes_any _ _ _ _))))
      refine wpQuiet_nil ?_
      intro W2 hw2
      have hb2 : Below (w.alloc (.cells #[.int .u64 a, .int .u64 n, .int .u64 al] 35)).heap.size (w.alloc (.cells #[.int .u64 a, .int .u64 n, .int .u64 al] 35)) W2 := by obtain ⟨⟨dq, osq⟩, rfl⟩ := hw2; exact below_regrown _ _ _
      clear hw2 hcr
      have HB2 := Lib.hid hb2
      clear hb2
      go_wp2
      go_ret
      exact ⟨ret_bool (may_no4 (by omega)), ((Below.refl _ w).alloc (Nat.le_refl _) _).trans (HB2.out.mono (by simp))⟩
  · have hd1 : decide (1048576 < n) = true := by simpa using h1
    go_enter Try.func40, Try.ntmps40
    go_wp2
    have hcr := HCR.out
    refine wp_region_quiet_below (by kernel_rfl) (by kernel_rfl) ?_
    repeat (go_big_quiet_step ((go_at_call 39; exact Calls.regrown_of (takes_any _ _ _ _))))
    refine wpQuiet_nil ?_
    intro W2 hw2
    have hb2 : Below (w.alloc (.cells #[.int .u64 a, .int .u64 n, .int .u64 al] 35)).heap.size (w.alloc (.cells #[.int .u64 a, .int .u64 n, .int .u64 al] 35)) W2 := by obtain ⟨⟨dq, osq⟩, rfl⟩ := hw2; exact below_regrown _ _ _
    clear hw2 hcr
    have HB2 := Lib.hid hb2
    clear hb2
    go_wp2
    go_ret
    exact ⟨ret_bool (may_no4 (by omega)), ((Below.refl _ w).alloc (Nat.le_refl _) _).trans (HB2.out.mono (by simp))⟩
end Go.Proofs.Ytgkloacfickeaaa
