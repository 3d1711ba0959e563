/- One act in both ledgers: At and In. -/
import Derived.Test.YtgkloacfickeaaaFits
import Derived.Test.YtgkloacfickeaaaDoFree
namespace Go.Proofs.Ytgkloacfickeaaa
open Go.RowKit
set_option linter.unusedVariables false

theorem below_box3 {B : Nat} {w w1 : World} {o : Obj} {u0 u1 u2 : Value} (h : Below B w w1) (hB : B ≤ w1.heap.size) :
    Below B w ((((w1.alloc o).setCell ⟨w1.heap.size, 0, none⟩ u0).setCell ⟨w1.heap.size, 1, none⟩ u1).setCell ⟨w1.heap.size, 2, none⟩ u2) :=
  (((h.alloc hB o).setCell (p := ⟨w1.heap.size, 0, none⟩) hB u0).setCell (p := ⟨w1.heap.size, 1, none⟩) hB u1).setCell (p := ⟨w1.heap.size, 2, none⟩) hB u2
set_option maxRecDepth 100000 in
set_option maxHeartbeats 4000000 in
theorem do_tell (p q base m c : Nat) (kind a n al : Int) (A : Option Addr) (es : List Ent) (w : World) (hk : kind = 4) (hlen : es.length ≤ 999999) (hs : Fit es) (hB : Both w base p q es)
    (a0 : 0 ≤ a) (a1 : a ≤ 18446744073709551615) (n0 : 0 ≤ n) (n1 : n ≤ 18446744073709551615) (l0 : 0 ≤ al) (l1 : al ≤ 18446744073709551615) :
    Calls Try.prog 7 #[.pointer (some ⟨p, 0, none⟩), .pointer (some ⟨q, 0, none⟩), .agg #[.int .i64 kind, .int .u64 a, .int .u64 n, .int .u64 al, .slice A m c]] w (DoPost base p q es w) := by
  obtain ⟨v, vL, vH, hL, hR⟩ := hB
  have hbW : base ≤ w.heap.size := by have := hL.1; have := hL.lt; omega
  subst hk
  have hb0 : Below w.heap.size w (w.alloc (.cells #[.int .i64 4, .int .u64 a, .int .u64 n, .int .u64 al, .slice A m c] 38)) := (Below.refl _ w).alloc (Nat.le_refl _) _
  have HL := Lib.hid hL
  have HR := Lib.hid hR
  have HS := Lib.hid hs
  have HB0 := Lib.hid hb0
  obtain ⟨o1, ho1⟩ : ∃ o1, atO es a = o1 := ⟨_, rfl⟩
  obtain ⟨o2, ho2⟩ : ∃ o2, inO es a = o2 := ⟨_, rfl⟩
  have H13 : Hid (∀ W, Below w.heap.size w W → Calls Try.prog 13 #[.pointer (some ⟨p, 0, none⟩), .int .u64 a] W fun r w' => r = .returned (.tuple #[.agg #[.int .u64 (tA o1), .int .u64 (tN o1), .int .u64 (tL o1)], .int .i64 (tE o1)]) ∧ Below W.heap.size W w') := Lib.hid (fun W hW => ho1 ▸ at_any p base v es a W (by omega) HS.out.rising (HL.out.below hW (Nat.le_refl _)))
  have H24 : Hid (∀ W, Below w.heap.size w W → Calls Try.prog 24 #[.pointer (some ⟨q, 0, none⟩), .int .u64 a] W fun r w' => r = .returned (.tuple #[.agg #[.int .u64 (tA o1), .int .u64 (tN o1), .int .u64 (tL o1)], .int .i64 (tE o1)]) ∧ Below W.heap.size W w') := Lib.hid (fun W hW => ho1 ▸ rAt_any q base vL vH es a W (by omega) HS.out.rising (HR.out.below hW (Nat.le_refl _)))
  have H16 : Hid (∀ W, Below w.heap.size w W → Calls Try.prog 16 #[.pointer (some ⟨p, 0, none⟩), .int .u64 a] W fun r w' => r = .returned (.tuple #[.agg #[.int .u64 (tA o2), .int .u64 (tN o2), .int .u64 (tL o2)], .int .i64 (tE o2)]) ∧ Below W.heap.size W w') := Lib.hid (fun W hW => ho2 ▸ in_any p base v es a W (by omega) HS.out (HL.out.below hW (Nat.le_refl _)))
  have H25 : Hid (∀ W, Below w.heap.size w W → Calls Try.prog 25 #[.pointer (some ⟨q, 0, none⟩), .int .u64 a] W fun r w' => r = .returned (.tuple #[.agg #[.int .u64 (tA o2), .int .u64 (tN o2), .int .u64 (tL o2)], .int .i64 (tE o2)]) ∧ Below W.heap.size W w') := Lib.hid (fun W hW => ho2 ▸ rin_any q base vL vH es a W (by omega) HS.out (HR.out.below hW (Nat.le_refl _)))
  clear hb0 hL hR hs ho1 ho2
  obtain ⟨x0, hx0⟩ : ∃ x, tA o1 = x := ⟨_, rfl⟩
  obtain ⟨x1, hx1⟩ : ∃ x, tN o1 = x := ⟨_, rfl⟩
  obtain ⟨x2, hx2⟩ : ∃ x, tL o1 = x := ⟨_, rfl⟩
  obtain ⟨x3, hx3⟩ : ∃ x, tE o1 = x := ⟨_, rfl⟩
  obtain ⟨y0, hy0⟩ : ∃ x, tA o2 = x := ⟨_, rfl⟩
  obtain ⟨y1, hy1⟩ : ∃ x, tN o2 = x := ⟨_, rfl⟩
  obtain ⟨y2, hy2⟩ : ∃ x, tL o2 = x := ⟨_, rfl⟩
  obtain ⟨y3, hy3⟩ : ∃ x, tE o2 = x := ⟨_, rfl⟩
  rw [hx0, hx1, hx2, hx3] at H13 H24
  rw [hy0, hy1, hy2, hy3] at H16 H25
  clear hx0 hx1 hx2 hx3 hy0 hy1 hy2 hy3
  go_enter Try.func7, Try.ntmps7
  go_wp2_with (first
    | (go_at_call 13; refine (H13.out _ HB0.out).mono ?_; rintro r w1 ⟨rfl, hb1⟩; obtain ⟨hc1, hf1⟩ := bcell hb1; have hz1 : w.heap.size < w1.heap.size := (by have := hb1.size; simp at this; omega); have hk1 : w1.cell? ⟨w.heap.size, 1, none⟩ = some (.int .u64 a) := (by rw [hc1 _ _ (by simp)]; simp); have HW1 := Lib.hid (HB0.out.trans (hb1.mono (by simp))); clear hb1 hc1 hf1)
    | (go_at_call 24; refine (H24.out _ (HW1.out.alloc (Nat.le_of_lt hz1) _)).mono ?_; rintro r w2 ⟨rfl, hb2⟩; obtain ⟨hc2, hf2⟩ := bcell hb2; have hz2 : w1.heap.size < w2.heap.size := (by have := hb2.size; simp at this; omega); have hk2 : w2.cell? ⟨w.heap.size, 1, none⟩ = some (.int .u64 a) := (by rw [hc2 _ _ (by simp; omega)]; go_simp); have hp20 : w2.cell? ⟨w1.heap.size, 0, none⟩ = some (.int .u64 x0) := (by rw [hc2 _ _ (by simp)]; go_simp); have hp21 : w2.cell? ⟨w1.heap.size, 1, none⟩ = some (.int .u64 x1) := (by rw [hc2 _ _ (by simp)]; go_simp); have hp22 : w2.cell? ⟨w1.heap.size, 2, none⟩ = some (.int .u64 x2) := (by rw [hc2 _ _ (by simp)]; go_simp); have h02 : w.heap.size < w2.heap.size := (by omega); have HW2 := Lib.hid ((HW1.out.alloc (Nat.le_of_lt hz1) _).trans (hb2.mono (by simp; omega))); clear hb2 hc2 hf2)
    | (go_at_call 16; refine (H16.out _ (HW2.out.alloc (by omega) _)).mono ?_; rintro r w3 ⟨rfl, hb3⟩; obtain ⟨hc3, hf3⟩ := bcell hb3; have hz3 : w2.heap.size < w3.heap.size := (by have := hb3.size; simp at this; omega); have hk3 : w3.cell? ⟨w.heap.size, 1, none⟩ = some (.int .u64 a) := (by rw [hc3 _ _ (by simp; omega)]; go_simp); have hp30 : w3.cell? ⟨w1.heap.size, 0, none⟩ = some (.int .u64 x0) := (by rw [hc3 _ _ (by simp; omega)]; go_simp); have hp31 : w3.cell? ⟨w1.heap.size, 1, none⟩ = some (.int .u64 x1) := (by rw [hc3 _ _ (by simp; omega)]; go_simp); have hp32 : w3.cell? ⟨w1.heap.size, 2, none⟩ = some (.int .u64 x2) := (by rw [hc3 _ _ (by simp; omega)]; go_simp); have hq30 : w3.cell? ⟨w2.heap.size, 0, none⟩ = some (.int .u64 x0) := (by rw [hc3 _ _ (by simp)]; go_simp); have hq31 : w3.cell? ⟨w2.heap.size, 1, none⟩ = some (.int .u64 x1) := (by rw [hc3 _ _ (by simp)]; go_simp); have hq32 : w3.cell? ⟨w2.heap.size, 2, none⟩ = some (.int .u64 x2) := (by rw [hc3 _ _ (by simp)]; go_simp); have h03 : w.heap.size < w3.heap.size := (by omega); have h13 : w1.heap.size < w3.heap.size := (by omega); have HW3 := Lib.hid ((HW2.out.alloc (by omega) _).trans (hb3.mono (by simp; omega))); clear hb3 hc3 hf3)
    | (go_at_call 25; refine (H25.out _ (HW3.out.alloc (by omega) _)).mono ?_; rintro r w4 ⟨rfl, hb4⟩; obtain ⟨hc4, hf4⟩ := bcell hb4; have hz4 : w3.heap.size < w4.heap.size := (by have := hb4.size; simp at this; omega); have hp40 : w4.cell? ⟨w1.heap.size, 0, none⟩ = some (.int .u64 x0) := (by rw [hc4 _ _ (by simp; omega)]; go_simp); have hp41 : w4.cell? ⟨w1.heap.size, 1, none⟩ = some (.int .u64 x1) := (by rw [hc4 _ _ (by simp; omega)]; go_simp); have hp42 : w4.cell? ⟨w1.heap.size, 2, none⟩ = some (.int .u64 x2) := (by rw [hc4 _ _ (by simp; omega)]; go_simp); have hq40 : w4.cell? ⟨w2.heap.size, 0, none⟩ = some (.int .u64 x0) := (by rw [hc4 _ _ (by simp; omega)]; go_simp); have hq41 : w4.cell? ⟨w2.heap.size, 1, none⟩ = some (.int .u64 x1) := (by rw [hc4 _ _ (by simp; omega)]; go_simp); have hq42 : w4.cell? ⟨w2.heap.size, 2, none⟩ = some (.int .u64 x2) := (by rw [hc4 _ _ (by simp; omega)]; go_simp); have hr40 : w4.cell? ⟨w3.heap.size, 0, none⟩ = some (.int .u64 y0) := (by rw [hc4 _ _ (by simp)]; go_simp); have hr41 : w4.cell? ⟨w3.heap.size, 1, none⟩ = some (.int .u64 y1) := (by rw [hc4 _ _ (by simp)]; go_simp); have hr42 : w4.cell? ⟨w3.heap.size, 2, none⟩ = some (.int .u64 y2) := (by rw [hc4 _ _ (by simp)]; go_simp); have h14 : w1.heap.size < w4.heap.size := (by omega); have h24 : w2.heap.size < w4.heap.size := (by omega); have HW4 := Lib.hid ((HW3.out.alloc (by omega) _).trans (hb4.mono (by simp; omega))); clear hb4 hc4 hf4))
  go_ret
  have hbF := HW4.out.alloc (by omega) (.cells #[.int .u64 y0, .int .u64 y1, .int .u64 y2] 35)
  exact ⟨ret_bool (by simp), es, ⟨v, vL, vH, HL.out.below hbF (Nat.le_refl _), HR.out.below hbF (Nat.le_refl _)⟩, HS.out, Nat.le_succ _, hbF.mono hbW⟩
end Go.Proofs.Ytgkloacfickeaaa
