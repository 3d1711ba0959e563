/- The reference's Free. -/
import Derived.Test.YtgkloacfickeaaaRefIn
namespace Go.Proofs.Ytgkloacfickeaaa
open Go.RowKit
set_option linter.unusedVariables false

set_option maxHeartbeats 2000000 in
theorem rfree_any (q base : Nat) (vL vH : Value) (es : List Ent) (a n : Int) (w : World) (hlen : es.length ≤ 1000000) (hs : Fit es) (hR : Ref w base q vL vH es)
    (a0 : 0 ≤ a) (a1 : a ≤ 18446744073709551615) (n0 : 0 ≤ n) (n1 : n ≤ 18446744073709551615) :
    Calls Try.prog 26 #[.pointer (some ⟨q, 0, none⟩), .int .u64 a, .int .u64 n] w fun r w' => r = .returned (.bool (freeB es a n)) ∧ Below w.heap.size w w' := by
  by_cases hov : 0 < n ∧ 18446744073709551616 ≤ a + (n - 1)
  · rw [free_over hov.1 hov.2]
    have hw : IntKind.u64.wrap (a + (n - 1)) < a := by simp [IntKind.wrap, IntKind.bits, IntKind.signed]; omega
    have hn : 0 < n := hov.1
    clear hR hov
    go_enter Try.func26, Try.ntmps26
    go_wp2
    go_ret
    exact ⟨rfl, Below.refl _ _⟩
  obtain ⟨A, c, rfl, _, _⟩ := own_form hR.2.2.1
  have hcell := hR.cell0
  have hq := hR.lt
  have HR := Lib.hid hR
  have HS := Lib.hid hs
  clear hR hs
  by_cases hn : n = 0
  · subst hn
    clear hov
    rw [free_zero]
    have hd0 : decide ((0 : Int) < 0) = false := by decide
    go_enter Try.func26, Try.ntmps26
    go_wp2
    go_loopw [24] (fun i wr => ∃ k : Nat, k ≤ es.length ∧ i = .int .i64 k ∧ Below w.heap.size w wr) (fun i _ => es.length - (intOf i).toNat)
    case atStart => exact ⟨0, Nat.zero_le _, rfl, Below.refl _ _⟩
    case round =>
      obtain ⟨k, hk, rfl, hB⟩ := hrel
      have hzr := hB.size
      by_cases hlt : k < es.length
      · obtain ⟨e, he⟩ : ∃ e, es[k]? = some e := ⟨es[k], by simp [hlt]⟩
        obtain ⟨g, rfl, hg, h0, h1, h2⟩ := HR.out.at he
        rw [← hB.cell (p := ⟨g, _, none⟩) (by simpa using hg)] at h0 h1 h2
        have hki : (k : Int) < es.length := by omega
        obtain ⟨m0, m1, m2, m3, m4⟩ := HS.out.mem he
        have HE := Lib.hid he
        have HCR := Lib.hid (cells_regrown (W := wr.alloc (.cells #[.int .u64 e.a, .int .u64 e.n, .int .u64 e.al] 35)) (b := wr.heap.size) (by simp))
        clear he
        go_wp2
        have hcr := HCR.out
        refine wp_region_quiet_below (by kernel_rfl) (by kernel_rfl) ?_
        repeat (go_big_quiet_step ((go_at_call 39; exact Calls.regrown_of (takes_any _ _ _ _))))
        refine wpQuiet_nil ?_
        intro W2 hw2
        have hb2 : Below (wr.alloc (.cells #[.int .u64 e.a, .int .u64 e.n, .int .u64 e.al] 35)).heap.size (wr.alloc (.cells #[.int .u64 e.a, .int .u64 e.n, .int .u64 e.al] 35)) W2 := by obtain ⟨⟨dq, osq⟩, rfl⟩ := hw2; exact below_regrown _ _ _
        clear hw2 hcr
        have HB2 := Lib.hid (hB.trans ((below_box hb2).mono hzr))
        clear hb2
        go_wp2
        go_roundw
        case rel => exact ⟨k + 1, by omega, by go_num, HB2.out⟩
        case measure => simp [intOf]; omega
      · have hki : ¬ (k : Int) < es.length := by omega
        go_wp2
        go_ret
        exact ⟨rfl, hB⟩
  have hn0 : 0 < n := by omega
  have hn1 : a + (n - 1) < 18446744073709551616 := by omega
  clear hov
  have hd0 : decide (0 < n) = true := by simpa using hn0
  go_enter Try.func26, Try.ntmps26
  go_wp2
  go_loopw [24] (fun i wr => ∃ k : Nat, k ≤ es.length ∧ i = .int .i64 k ∧ Below w.heap.size w wr ∧ ∀ (j : Nat) (e : Ent), j < k → es[j]? = some e → e.a + max e.n 1 ≤ a ∨ a + (n - 1) < e.a) (fun i _ => es.length - (intOf i).toNat)
  case atStart => exact ⟨0, Nat.zero_le _, rfl, Below.refl _ _, fun j _ h => by omega⟩
  case round =>
    obtain ⟨k, hk, rfl, hB, hno⟩ := hrel
    have HNO := Lib.hid hno
    clear hno
    have hzr := hB.size
    by_cases hlt : k < es.length
    · obtain ⟨e, he⟩ : ∃ e, es[k]? = some e := ⟨es[k], by simp [hlt]⟩
      obtain ⟨g, rfl, hg, h0, h1, h2⟩ := HR.out.at he
      rw [← hB.cell (p := ⟨g, _, none⟩) (by simpa using hg)] at h0 h1 h2
      have hki : (k : Int) < es.length := by omega
      obtain ⟨m0, m1, m2, m3, m4⟩ := HS.out.mem he
      have HE := Lib.hid he
      have HCR := Lib.hid (cells_regrown (W := wr.alloc (.cells #[.int .u64 e.a, .int .u64 e.n, .int .u64 e.al] 35)) (b := wr.heap.size) (by simp))
      clear he
      have next : (e.a + max e.n 1 ≤ a ∨ a + (n - 1) < e.a) → ∀ (j : Nat) (x : Ent), j < k + 1 → es[j]? = some x → x.a + max x.n 1 ≤ a ∨ a + (n - 1) < x.a := by
        intro hn j x hj hx
        by_cases hjk : j = k
        · subst hjk; have := HE.out; rw [hx] at this; cases this; exact hn
        · exact HNO.out j x (by omega) hx
      have NX := Lib.hid next
      clear next
      by_cases g1 : a ≤ e.a + max e.n 1 - 1
      · have hg1 : decide (a ≤ e.a + max e.n 1 - 1) = true := by simpa using g1
        by_cases g2 : e.a ≤ a + (n - 1)
        · have hg2 : decide (e.a ≤ a + (n - 1)) = true := by simpa using g2
          go_wp2
          have hcr := HCR.out
          refine wp_region_quiet_below (by kernel_rfl) (by kernel_rfl) ?_
          repeat (go_big_quiet_step ((go_at_call 39; exact Calls.regrown_of (takes_any _ _ _ _))))
          refine wpQuiet_nil ?_
          intro W2 hw2
          have hb2 : Below (wr.alloc (.cells #[.int .u64 e.a, .int .u64 e.n, .int .u64 e.al] 35)).heap.size (wr.alloc (.cells #[.int .u64 e.a, .int .u64 e.n, .int .u64 e.al] 35)) W2 := by obtain ⟨⟨dq, osq⟩, rfl⟩ := hw2; exact below_regrown _ _ _
          clear hw2 hcr
          have HB2 := Lib.hid (hB.trans ((below_box hb2).mono hzr))
          clear hb2
          go_wp2
          go_ret
          exact ⟨ret_bool (free_meets hn0 HE.out (by omega) (by omega)).symm, HB2.out⟩
        · have hg2 : decide (e.a ≤ a + (n - 1)) = false := by simpa using g2
          go_wp2
          have hcr := HCR.out
          refine wp_region_quiet_below (by kernel_rfl) (by kernel_rfl) ?_
          repeat (go_big_quiet_step ((go_at_call 39; exact Calls.regrown_of (takes_any _ _ _ _))))
          refine wpQuiet_nil ?_
          intro W2 hw2
          have hb2 : Below (wr.alloc (.cells #[.int .u64 e.a, .int .u64 e.n, .int .u64 e.al] 35)).heap.size (wr.alloc (.cells #[.int .u64 e.a, .int .u64 e.n, .int .u64 e.al] 35)) W2 := by obtain ⟨⟨dq, osq⟩, rfl⟩ := hw2; exact below_regrown _ _ _
          clear hw2 hcr
          have HB2 := Lib.hid (hB.trans ((below_box hb2).mono hzr))
          clear hb2
          go_wp2
          go_roundw
          case rel => exact ⟨k + 1, by omega, by go_num, HB2.out, NX.out (.inr (by omega))⟩
          case measure => simp [intOf]; omega
      · have hg1 : decide (a ≤ e.a + max e.n 1 - 1) = false := by simpa using g1
        go_wp2
        have hcr := HCR.out
        refine wp_region_quiet_below (by kernel_rfl) (by kernel_rfl) ?_
        repeat (go_big_quiet_step ((go_at_call 39; exact Calls.regrown_of (takes_any _ _ _ _))))
        refine wpQuiet_nil ?_
        intro W2 hw2
        have hb2 : Below (wr.alloc (.cells #[.int .u64 e.a, .int .u64 e.n, .int .u64 e.al] 35)).heap.size (wr.alloc (.cells #[.int .u64 e.a, .int .u64 e.n, .int .u64 e.al] 35)) W2 := by obtain ⟨⟨dq, osq⟩, rfl⟩ := hw2; exact below_regrown _ _ _
        clear hw2 hcr
        have HB2 := Lib.hid (hB.trans ((below_box hb2).mono hzr))
        clear hb2
        go_wp2
        go_roundw
        case rel => exact ⟨k + 1, by omega, by go_num, HB2.out, NX.out (.inl (by omega))⟩
        case measure => simp [intOf]; omega
    · have hki : ¬ (k : Int) < es.length := by omega
      go_wp2
      go_ret
      exact ⟨ret_bool (free_none hn1 (fun j x hx => HNO.out j x (by have := (List.getElem?_eq_some_iff.1 hx).1; omega) hx)).symm, hB⟩
end Go.Proofs.Ytgkloacfickeaaa
