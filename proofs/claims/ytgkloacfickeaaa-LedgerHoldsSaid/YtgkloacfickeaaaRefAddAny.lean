/- The reference's Add, whatever it is handed. -/
import Derived.Test.YtgkloacfickeaaaRefAdd
namespace Go.Proofs.Ytgkloacfickeaaa
open Go.RowKit
set_option linter.unusedVariables false

set_option maxHeartbeats 4000000 in
theorem radd_any (q base : Nat) (vL vH : Value) (es : List Ent) (a n al : Int) (w : World) (hlen : es.length ≤ 999999) (hs : Fit es) (hR : Ref w base q vL vH es)
    (a0 : 0 ≤ a) (a1 : a ≤ 18446744073709551615) (n0 : 0 ≤ n) (n1 : n ≤ 18446744073709551615) (l0 : 0 ≤ al) (l1 : al ≤ 18446744073709551615) :
    Calls Try.prog 27 #[.pointer (some ⟨q, 0, none⟩), .agg #[.int .u64 a, .int .u64 n, .int .u64 al]] w (RefPost (addS es a n al) q base vL vH w) := by
  cases hmay : mayB a n al
  · have hr : addS es a n al = (2, es) := by unfold addS; rw [hmay]; rfl
    rw [hr]
    have H40 : Hid (Calls Try.prog 40 #[.agg #[.int .u64 a, .int .u64 n, .int .u64 al]] (w.alloc (.cells #[.int .u64 a, .int .u64 n, .int .u64 al] 35)) fun e w' => e = .returned (.bool false) ∧ Below (w.alloc (.cells #[.int .u64 a, .int .u64 n, .int .u64 al] 35)).heap.size (w.alloc (.cells #[.int .u64 a, .int .u64 n, .int .u64 al] 35)) w') := Lib.hid (hmay ▸ rmay_any a n al _ a0 a1 n0 n1 l0 l1)
    have HR := Lib.hid hR
    clear hr hmay hR hs
    go_enter Try.func27, Try.ntmps27
    go_wp2_with (go_at_call 40; refine H40.out.mono ?_; rintro r w1 ⟨rfl, hb1⟩)
    go_ret
    exact ⟨rfl, vL, vH, HR.out.below (below_box hb1) (Nat.le_refl _), Mod.of_below (below_box hb1) (Nat.le_refl _)⟩
  · cases hfree : freeB es a (max n 1)
    · have hr : addS es a n al = (6, es) := by unfold addS; rw [hmay, hfree]; rfl
      rw [hr]
      have HR := Lib.hid hR
      have HS := Lib.hid hs
      have H40 : Hid (Calls Try.prog 40 #[.agg #[.int .u64 a, .int .u64 n, .int .u64 al]] (w.alloc (.cells #[.int .u64 a, .int .u64 n, .int .u64 al] 35)) fun e w' => e = .returned (.bool true) ∧ Below (w.alloc (.cells #[.int .u64 a, .int .u64 n, .int .u64 al] 35)).heap.size (w.alloc (.cells #[.int .u64 a, .int .u64 n, .int .u64 al] 35)) w') := Lib.hid (hmay ▸ rmay_any a n al _ a0 a1 n0 n1 l0 l1)
      have HF0 := Lib.hid hfree
      clear hr hmay hR hs hfree
      go_enter Try.func27, Try.ntmps27
      go_wp2_with (go_at_call 40; refine H40.out.mono ?_; rintro r w1 ⟨rfl, hb1⟩)
      have HR1 := Lib.hid (HR.out.below (below_box hb1) (Nat.le_refl _))
      have hz1 : w.heap.size < w1.heap.size := by have := hb1.size; simp at this; omega
      have hx1 : ∀ o, w1.cell? ⟨w.heap.size, o, none⟩ = (w.alloc (.cells #[.int .u64 a, .int .u64 n, .int .u64 al] 35)).cell? ⟨w.heap.size, o, none⟩ := fun o => hb1.cell (p := ⟨w.heap.size, o, none⟩) (by simp)
      have HCR := Lib.hid (cells_regrown (W := w1) (b := w.heap.size) hz1)
      have H26 : Hid (∀ d os, Calls Try.prog 26 #[.pointer (some ⟨q, 0, none⟩), .int .u64 a, .int .u64 (max n 1)] (Go.Sort.grow (redrawn w1 d) os) fun r w' => r = .returned (.bool false) ∧ Below (Go.Sort.grow (redrawn w1 d) os).heap.size (Go.Sort.grow (redrawn w1 d) os) w') := Lib.hid (fun d os => HF0.out ▸ rfree_any q base _ _ es a (max n 1) _ (by omega) HS.out (HR1.out.below (below_regrown w1 d os) (Nat.le_refl _)) a0 a1 (by omega) (by omega))
      have hcr := HCR.out
      refine wp_region_quiet_below (by kernel_rfl) (by kernel_rfl) ?_
      repeat (go_big_quiet_step (first | (go_at_call 39; exact Calls.regrown_of (takes_any _ _ _ _)) | (go_at_call 26; exact Calls.regrown_of (H26.out _ _))))
      refine wpQuiet_nil ?_
      intro W2 hw2
      have hb2 : Below w1.heap.size w1 W2 := by obtain ⟨⟨dq, osq⟩, rfl⟩ := hw2; exact below_regrown _ _ _
      clear hw2 hcr
      have HB2 := Lib.hid ((below_box hb1).trans (hb2.mono (by omega)))
      clear hx1 hb1 hb2
      go_wp2
      go_ret
      exact ⟨rfl, vL, vH, HR.out.below HB2.out (Nat.le_refl _), Mod.of_below HB2.out (Nat.le_refl _)⟩
    · have hr : addS es a n al = (0, putAt es (lb es a) ⟨a, n, al, false⟩) := by unfold addS; rw [hmay, hfree]; rfl
      rw [hr]
      obtain ⟨A, c, rfl, _, _⟩ := own_form hR.2.2.1
      obtain ⟨AH, ch, rfl, _, _⟩ := own_form hR.2.2.2
      exact radd_yes q base c ch A AH es a n al w hlen hs hR a0 a1 n0 n1 l0 l1 hmay hfree
end Go.Proofs.Ytgkloacfickeaaa
