/- One act in both ledgers: Free. -/
import Derived.Test.YtgkloacfickeaaaFits
import Derived.Test.YtgkloacfickeaaaDoEach
import Derived.Lib.QuietBelow
import Derived.BigQuiet
namespace Go.Proofs.Ytgkloacfickeaaa
open Go.RowKit
set_option linter.unusedVariables false

set_option maxRecDepth 100000 in
set_option maxHeartbeats 4000000 in
theorem do_free (p q base m c : Nat) (kind a n al : Int) (A : Option Addr) (es : List Ent) (w : World) (hk : kind = 5) (hlen : es.length ≤ 999999) (hs : Fit es) (hB : Both w base p q es)
    (a0 : 0 ≤ a) (a1 : a ≤ 18446744073709551615) (n0 : 0 ≤ n) (n1 : n ≤ 18446744073709551615) (l0 : 0 ≤ al) (l1 : al ≤ 18446744073709551615) :
    Calls Try.prog 7 #[.pointer (some ⟨p, 0, none⟩), .pointer (some ⟨q, 0, none⟩), .agg #[.int .i64 kind, .int .u64 a, .int .u64 n, .int .u64 al, .slice A m c]] w (DoPost base p q es w) := by
  obtain ⟨v, vL, vH, hL, hR⟩ := hB
  have hbW : base ≤ w.heap.size := by have := hL.1; have := hL.lt; omega
  subst hk
  have hb0 : Below w.heap.size w (w.alloc (.cells #[.int .i64 5, .int .u64 a, .int .u64 n, .int .u64 al, .slice A m c] 38)) := (Below.refl _ w).alloc (Nat.le_refl _) _
  have HL1 := Lib.hid (hL.below hb0 (Nat.le_refl _))
  have HR1 := Lib.hid (hR.below hb0 (Nat.le_refl _))
  have HS := Lib.hid hs
  have HB0 := Lib.hid hb0
  have HCR := Lib.hid (cells_regrown (W := w.alloc (.cells #[.int .i64 5, .int .u64 a, .int .u64 n, .int .u64 al, .slice A m c] 38)) (b := w.heap.size) (by simp))
  obtain ⟨fb, hfb⟩ : ∃ fb, freeB es a n = fb := ⟨_, rfl⟩
  have H17 : Hid (∀ d os, Calls Try.prog 17 #[.pointer (some ⟨p, 0, none⟩), .int .u64 a, .int .u64 n] (Go.Sort.grow (redrawn (w.alloc (.cells #[.int .i64 5, .int .u64 a, .int .u64 n, .int .u64 al, .slice A m c] 38)) d) os) fun r w' => r = .returned (.bool fb) ∧ Below (Go.Sort.grow (redrawn (w.alloc (.cells #[.int .i64 5, .int .u64 a, .int .u64 n, .int .u64 al, .slice A m c] 38)) d) os).heap.size (Go.Sort.grow (redrawn (w.alloc (.cells #[.int .i64 5, .int .u64 a, .int .u64 n, .int .u64 al, .slice A m c] 38)) d) os) w') := Lib.hid (fun d os => hfb ▸ free_any p base v es a n _ (by omega) HS.out (HL1.out.below (below_regrown _ d os) (Nat.le_refl _)) a0 a1 n0 n1)
  have H26 : Hid (∀ d os, Calls Try.prog 26 #[.pointer (some ⟨q, 0, none⟩), .int .u64 a, .int .u64 n] (Go.Sort.grow (redrawn (w.alloc (.cells #[.int .i64 5, .int .u64 a, .int .u64 n, .int .u64 al, .slice A m c] 38)) d) os) fun r w' => r = .returned (.bool fb) ∧ Below (Go.Sort.grow (redrawn (w.alloc (.cells #[.int .i64 5, .int .u64 a, .int .u64 n, .int .u64 al, .slice A m c] 38)) d) os).heap.size (Go.Sort.grow (redrawn (w.alloc (.cells #[.int .i64 5, .int .u64 a, .int .u64 n, .int .u64 al, .slice A m c] 38)) d) os) w') := Lib.hid (fun d os => hfb ▸ rfree_any q base vL vH es a n _ (by omega) HS.out (HR1.out.below (below_regrown _ d os) (Nat.le_refl _)) a0 a1 n0 n1)
  clear hb0 hL hR hs hfb
  go_enter Try.func7, Try.ntmps7
  go_wp2
  have hcr := HCR.out
  refine wp_region_quiet_below (by kernel_rfl) (by kernel_rfl) ?_
  repeat (go_big_quiet_step (first | (go_at_call 17; exact Calls.regrown_of (H17.out _ _)) | (go_at_call 26; exact Calls.regrown_of (H26.out _ _))))
  refine wpQuiet_nil ?_
  intro W2 hw2
  have hb2 : Below (w.alloc (.cells #[.int .i64 5, .int .u64 a, .int .u64 n, .int .u64 al, .slice A m c] 38)).heap.size (w.alloc (.cells #[.int .i64 5, .int .u64 a, .int .u64 n, .int .u64 al, .slice A m c] 38)) W2 := by obtain ⟨⟨dq, osq⟩, rfl⟩ := hw2; exact below_regrown _ _ _
  clear hw2 hcr
  have HB2 := Lib.hid hb2
  clear hb2
  go_wp2
  go_ret
  exact ⟨ret_bool (by simp), es, ⟨v, vL, vH, HL1.out.below HB2.out (Nat.le_refl _), HR1.out.below HB2.out (Nat.le_refl _)⟩, HS.out, Nat.le_succ _, (HB0.out.mono hbW).trans (HB2.out.mono (by simp; omega))⟩
end Go.Proofs.Ytgkloacfickeaaa
