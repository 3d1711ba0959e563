/- The reference's In and Free. -/
import Derived.Test.YtgkloacfickeaaaRef
import Derived.BigQuiet
namespace Go.Proofs.Ytgkloacfickeaaa
open Go.RowKit
set_option linter.unusedVariables false

/-- Cells of a block in every world that lays blocks behind. -/
theorem cells_regrown {W : World} {b : Nat} (h : b < W.heap.size) : ∀ (d : Nat) (os : Array Obj) (o : Nat), (Go.Sort.grow (redrawn W d) os).cell? ⟨b, o, none⟩ = W.cell? ⟨b, o, none⟩ :=
  fun d os o => (below_regrown W d os).cell (p := ⟨b, o, none⟩) h

set_option maxHeartbeats 2000000 in
theorem rin_any (q base : Nat) (vL vH : Value) (es : List Ent) (t : Int) (w : World) (hlen : es.length ≤ 1000000) (hs : Fit es) (hR : Ref w base q vL vH es) :
    Calls Try.prog 25 #[.pointer (some ⟨q, 0, none⟩), .int .u64 t] w fun r w' =>
      r = .returned (.tuple #[.agg #[.int .u64 (tA (inO es t)), .int .u64 (tN (inO es t)), .int .u64 (tL (inO es t))], .int .i64 (tE (inO es t))]) ∧ Below w.heap.size w w' := by
  obtain ⟨A, c, rfl, _, _⟩ := own_form hR.2.2.1
  have hcell := hR.cell0
  have hq := hR.lt
  have HR := Lib.hid hR
  have HS := Lib.hid hs
  clear hR hs
  go_enter Try.func25, Try.ntmps25
  go_wp2
  go_loopw [13] (fun i wr => ∃ k : Nat, k ≤ es.length ∧ i = .int .i64 k ∧ Below (w.heap.size + 1) (w.alloc (.cells #[.int .u64 0, .int .u64 0, .int .u64 0] 35)) wr ∧ ∀ (j : Nat) (e : Ent), j < k → es[j]? = some e → ¬ (e.a ≤ t ∧ t < e.a + max e.n 1)) (fun i _ => es.length - (intOf i).toNat)
  case atStart => exact ⟨0, Nat.zero_le _, rfl, Below.refl _ _, fun j _ h => by omega⟩
  case round =>
    obtain ⟨k, hk, rfl, hB, hno⟩ := hrel
    have HNO := Lib.hid hno
    clear hno
    have hzr := hB.size
    simp only [World.size_alloc] at hzr
    by_cases hlt : k < es.length
    · obtain ⟨e, he⟩ : ∃ e, es[k]? = some e := ⟨es[k], by simp [hlt]⟩
      obtain ⟨g, rfl, hg, h0, h1, h2⟩ := (HR.out.box _).at he
      rw [← hB.cell (p := ⟨g, _, none⟩) (by simpa using hg)] at h0 h1 h2
      have hki : (k : Int) < es.length := by omega
      obtain ⟨m0, m1, m2, m3, m4⟩ := HS.out.mem he
      have HE := Lib.hid he
      have HCR := Lib.hid (cells_regrown (W := wr.alloc (.cells #[.int .u64 e.a, .int .u64 e.n, .int .u64 e.al] 35)) (b := wr.heap.size) (by simp))
      clear he
      have next : ∀ W2 : World, ¬ (e.a ≤ t ∧ t < e.a + max e.n 1) → ∀ (j : Nat) (x : Ent), j < k + 1 → es[j]? = some x → ¬ (x.a ≤ t ∧ t < x.a + max x.n 1) := by
        intro W2 hn j x hj hx
        by_cases hjk : j = k
        · subst hjk; have := HE.out; rw [hx] at this; cases this; exact hn
        · exact HNO.out j x (by omega) hx
      have NX := Lib.hid next
      clear next
      by_cases g1 : e.a ≤ t
      · have hg1 : decide (e.a ≤ t) = true := by simpa using g1
        by_cases g2 : t < e.a + max e.n 1
        · have hg2 : decide (t < e.a + max e.n 1) = true := by simpa using g2
          go_wp2
          have hcr := HCR.out
          refine wp_region_quiet_below (by kernel_rfl) (by kernel_rfl) ?_
          repeat (go_big_quiet_step ((go_at_call 39; exact Calls.regrown_of (takes_any _ _ _ _))))
          refine wpQuiet_nil ?_
          intro W2 hw2
          have hb2 : Below (wr.alloc (.cells #[.int .u64 e.a, .int .u64 e.n, .int .u64 e.al] 35)).heap.size (wr.alloc (.cells #[.int .u64 e.a, .int .u64 e.n, .int .u64 e.al] 35)) W2 := by obtain ⟨⟨dq, osq⟩, rfl⟩ := hw2; exact below_regrown _ _ _
          clear hw2 hcr
          have HB2 := Lib.hid (hB.trans ((below_box hb2).mono hzr))
          clear hb2
          have hit : inO es t = some e := find_at HE.out (by simp [g1, g2]) (fun j x hj hx => by have := HNO.out j x hj hx; simpa using this)
          have HIT := Lib.hid hit
          have HRW := Lib.hid (((HR.out.box _).below HB2.out (by simp)))
          clear hit
          have hzW : w.heap.size < W2.heap.size := by have := HB2.out.size; simp at this; omega
          have hbc : ∀ o, W2.cell? ⟨w.heap.size, o, none⟩ = (w.alloc (.cells #[.int .u64 0, .int .u64 0, .int .u64 0] 35)).cell? ⟨w.heap.size, o, none⟩ := fun o => HB2.out.cell (p := ⟨w.heap.size, o, none⟩) (by simp)
          have hbf : ∀ o, W2.frozen? ⟨w.heap.size, o, none⟩ = false := fun o => (HB2.out.frozen (p := ⟨w.heap.size, o, none⟩) (by simp)).trans (by simp)
          go_wp2_with (go_at_call 38; refine (rone_any q base _ vH es k e _ hlen HRW.out HE.out).mono ?_; rintro r w3 ⟨rfl, hb3⟩; obtain ⟨hc3, hf3⟩ := bcell hb3)
          refine bodyPost_ret (v := .tuple #[.agg #[.int .u64 (tA (some e)), .int .u64 (tN (some e)), .int .u64 (tL (some e))], .int .i64 (tE (some e))]) (by simp [results, Try.results25, go_sem, hc3, hbc, hzW]) rfl ⟨by rw [HIT.out], ?_⟩
          exact (((((Below.refl _ w).alloc (Nat.le_refl _) _).trans (HB2.out.mono (by omega))).trans (hb3.mono (by omega))).setCell (p := ⟨w.heap.size, 0, none⟩) (Nat.le_refl _) _).setCell (p := ⟨w.heap.size, 1, none⟩) (Nat.le_refl _) _ |>.setCell (p := ⟨w.heap.size, 2, none⟩) (Nat.le_refl _) _
        · have hg2 : decide (t < e.a + max e.n 1) = false := by simpa using g2
          go_wp2
          have hcr := HCR.out
          refine wp_region_quiet_below (by kernel_rfl) (by kernel_rfl) ?_
          repeat (go_big_quiet_step ((go_at_call 39; exact Calls.regrown_of (takes_any _ _ _ _))))
          refine wpQuiet_nil ?_
          intro W2 hw2
          have hb2 : Below (wr.alloc (.cells #[.int .u64 e.a, .int .u64 e.n, .int .u64 e.al] 35)).heap.size (wr.alloc (.cells #[.int .u64 e.a, .int .u64 e.n, .int .u64 e.al] 35)) W2 := by obtain ⟨⟨dq, osq⟩, rfl⟩ := hw2; exact below_regrown _ _ _
          clear hw2 hcr
          have HB2 := Lib.hid (hB.trans ((below_box hb2).mono hzr))
          clear hb2
          go_wp2
          go_roundw
          case rel => exact ⟨k + 1, by omega, by go_num, HB2.out, NX.out W2 (fun h => by omega)⟩
          case measure => simp [intOf]; omega
      · have hg1 : decide (e.a ≤ t) = false := by simpa using g1
        go_wp2
        have hcr := HCR.out
        refine wp_region_quiet_below (by kernel_rfl) (by kernel_rfl) ?_
        repeat (go_big_quiet_step ((go_at_call 39; exact Calls.regrown_of (takes_any _ _ _ _))))
        refine wpQuiet_nil ?_
        intro W2 hw2
        have hb2 : Below (wr.alloc (.cells #[.int .u64 e.a, .int .u64 e.n, .int .u64 e.al] 35)).heap.size (wr.alloc (.cells #[.int .u64 e.a, .int .u64 e.n, .int .u64 e.al] 35)) W2 := by obtain ⟨⟨dq, osq⟩, rfl⟩ := hw2; exact below_regrown _ _ _
        clear hw2 hcr
        have HB2 := Lib.hid (hB.trans ((below_box hb2).mono hzr))
        clear hb2
        go_wp2
        go_roundw
        case rel => exact ⟨k + 1, by omega, by go_num, HB2.out, NX.out W2 (fun h => by omega)⟩
        case measure => simp [intOf]; omega
    · obtain rfl : k = es.length := by omega
      have hit : inO es t = none := find_no (fun j x hx => by have := HNO.out j x (List.getElem?_eq_some_iff.1 hx).1 hx; simpa using this)
      have HIT := Lib.hid hit
      clear hit
      have hbc : ∀ o, wr.cell? ⟨w.heap.size, o, none⟩ = (w.alloc (.cells #[.int .u64 0, .int .u64 0, .int .u64 0] 35)).cell? ⟨w.heap.size, o, none⟩ := fun o => hB.cell (p := ⟨w.heap.size, o, none⟩) (by simp)
      have hbf : ∀ o, wr.frozen? ⟨w.heap.size, o, none⟩ = false := fun o => (hB.frozen (p := ⟨w.heap.size, o, none⟩) (by simp)).trans (by simp)
      have hzW : w.heap.size < wr.heap.size := by omega
      go_wp2_with (go_at_call 38; refine (rone_none q base vH vH es _).mono ?_; rintro r w3 ⟨rfl, hb3⟩; obtain ⟨hc3, hf3⟩ := bcell hb3)
      refine bodyPost_ret (v := .tuple #[.agg #[.int .u64 (tA none), .int .u64 (tN none), .int .u64 (tL none)], .int .i64 (tE none)]) (by simp [results, Try.results25, go_sem, hc3, hbc, hzW]) rfl ⟨by rw [HIT.out], ?_⟩
      exact (((((Below.refl _ w).alloc (Nat.le_refl _) _).trans (hB.mono (by omega))).trans (hb3.mono (by omega))).setCell (p := ⟨w.heap.size, 0, none⟩) (Nat.le_refl _) _).setCell (p := ⟨w.heap.size, 1, none⟩) (Nat.le_refl _) _ |>.setCell (p := ⟨w.heap.size, 2, none⟩) (Nat.le_refl _) _
end Go.Proofs.Ytgkloacfickeaaa
