/- Whether a block may be; the ledger's one, At, In. -/
import Derived.Test.YtgkloacfickeaaaLeaf
namespace Go.Proofs.Ytgkloacfickeaaa
open Go.RowKit
set_option linter.unusedVariables false

/-- May a block be? -/
def mayB (a n al : Int) : Bool := decide (n ≤ 1048576 ∧ a ≤ 1048576 ∧ a + max n 1 ≤ 1048576 ∧ isPow2 al = true ∧ a % al = 0)

theorem pow2_cases {x : Int} (h : isPow2 x = true) : x = 1 ∨ x = 2 ∨ x = 4 ∨ x = 8 ∨ x = 16 ∨ x = 32 ∨ x = 64 ∨ x = 128 ∨ x = 256 ∨ x = 512 ∨ x = 1024 := by
  simpa [isPow2] using h
theorem and_low {a al : Int} (h0 : 0 ≤ a) (h1 : a ≤ 1048576) (h : isPow2 al = true) : bits BinOp.and IntKind.u64 a (al - 1) = a % al := by
  rw [u64_and a (al - 1) h0 (by omega) (by rcases pow2_cases h with h | h | h | h | h | h | h | h | h | h | h <;> omega) (by rcases pow2_cases h with h | h | h | h | h | h | h | h | h | h | h <;> omega)]
  obtain ⟨m, rfl⟩ := Int.eq_ofNat_of_zero_le h0
  have key : ∀ k : Nat, ((m &&& (2 ^ k - 1) : Nat) : Int) = (m : Int) % ((2 ^ k : Nat) : Int) := fun k => by rw [Nat.and_two_pow_sub_one_eq_mod]; omega
  rcases pow2_cases h with h | h | h | h | h | h | h | h | h | h | h <;> subst h
  · exact key 0
  · exact key 1
  · exact key 2
  · exact key 3
  · exact key 4
  · exact key 5
  · exact key 6
  · exact key 7
  · exact key 8
  · exact key 9
  · exact key 10

theorem may_yes {a n al : Int} {b : Bool} (a0 : 0 ≤ a) (h1 : n ≤ 1048576) (h2 : a ≤ 1048576) (h3 : a + max n 1 ≤ 1048576) (hb : b = true) (h4 : al ≤ 1024) (hs : PowSays al b) :
    (bits BinOp.and IntKind.u64 a (IntKind.u64.wrap (al - 1)) == 0) = mayB a n al := by
  have hp : isPow2 al = true := by rw [← hs h4, hb]
  have h5 : 1 ≤ al := by rcases pow2_cases hp with h | h | h | h | h | h | h | h | h | h | h <;> omega
  rw [IntWalk.u64_in _ (by omega), and_low a0 h2 hp]
  unfold mayB
  rw [Bool.eq_iff_iff]
  simp only [beq_iff_eq, decide_eq_true_eq]
  exact ⟨fun h => ⟨h1, h2, h3, hp, h⟩, fun h => h.2.2.2.2⟩
theorem may_no1 {a n al : Int} (h4 : 1024 < al) : false = mayB a n al := by
  unfold mayB
  rw [Bool.eq_iff_iff]
  simp only [Bool.false_eq_true, decide_eq_true_eq, false_iff]
  rintro ⟨_, _, _, hp, _⟩
  rcases pow2_cases hp with h | h | h | h | h | h | h | h | h | h | h <;> omega
theorem may_no2 {a n al : Int} {b : Bool} (hb : ¬ b = true) (hs : PowSays al b) : false = mayB a n al := by
  by_cases h4 : al ≤ 1024
  · unfold mayB
    rw [Bool.eq_iff_iff]
    simp only [Bool.false_eq_true, decide_eq_true_eq, false_iff]
    rintro ⟨_, _, _, hp, _⟩
    exact hb (by rw [hs h4, hp])
  · exact may_no1 (by omega)
theorem may_no3 {a n al : Int} (h : 1048576 < a + max n 1) : false = mayB a n al := by
  unfold mayB
  rw [Bool.eq_iff_iff]
  simp only [Bool.false_eq_true, decide_eq_true_eq, false_iff]
  rintro ⟨_, _, h', _⟩
  omega

set_option maxHeartbeats 800000 in
theorem may_any (a n al : Int) (w : World) (a0 : 0 ≤ a) (a1 : a ≤ 18446744073709551615) (n0 : 0 ≤ n) (n1 : n ≤ 18446744073709551615) (l0 : 0 ≤ al) (l1 : al ≤ 18446744073709551615) :
    Calls Try.prog 32 #[.agg #[.int .u64 a, .int .u64 n, .int .u64 al]] w fun e w' => e = .returned (.bool (mayB a n al)) ∧ Below w.heap.size w w' := by
  by_cases h1 : n ≤ 1048576
  · by_cases h2 : a ≤ 1048576
    · go_enter Try.func32, Try.ntmps32
      go_wp2_with (first | (go_at_call 31; refine (end_any _ _ _ _ _ a0 n0 h2 h1).mono ?_; rintro r w1 ⟨rfl, hb1⟩; obtain ⟨hc1, hf1⟩ := bcell hb1) | (go_at_call 45; refine (pow_any _ _ l0 l1).mono ?_; rintro r w2 ⟨b, hb, rfl, rfl⟩; have HB := Lib.hid hb; clear hb))
      all_goals go_ret
      all_goals refine ⟨?_, ((Below.refl _ _).alloc (Nat.le_refl _) _).trans (hb1.mono (by simp))⟩
      · exact ret_bool (may_yes a0 h1 h2 (by assumption) (by assumption) (by assumption) HB.out)
      · exact ret_bool (may_no1 (by assumption))
      · exact ret_bool (may_no2 (by assumption) HB.out)
      · exact ret_bool (may_no3 (by assumption))
    · go_enter Try.func32, Try.ntmps32
      go_wp2
      go_ret
      exact ⟨ret_bool (by unfold mayB; simp; omega), (Below.refl _ _).alloc (Nat.le_refl _) _⟩
  · go_enter Try.func32, Try.ntmps32
    go_wp2
    go_ret
    exact ⟨ret_bool (by unfold mayB; simp; omega), (Below.refl _ _).alloc (Nat.le_refl _) _⟩
end Go.Proofs.Ytgkloacfickeaaa
