/- The document's example. -/
import Derived.Test.YtgkloacfickeaaaDo
import Derived.Test.YtgkloacfickeaaaSame
import Derived.Test.YtgkloacfickeaaaGreat
namespace Go.Proofs.Ytgkloacfickeaaa
open Go.RowKit
set_option linter.unusedVariables false

theorem led_new (w : World) : Led (w.alloc (.cells #[.slice none 0 0] 27)) w.heap.size w.heap.size (.slice none 0 0) [] :=
  ⟨Nat.le_refl _, heap_alloc_new w _, rfl, .inl ⟨rfl, rfl⟩⟩

def al1 : List Ent := [⟨32, 16, 16, false⟩]
def al2 : List Ent := [⟨32, 16, 16, true⟩]
theorem al_add1 : addS [] 32 16 16 = (0, al1) := by rfl
theorem al_add2 : addS al1 40 8 8 = (6, al1) := by rfl
theorem al_hold : eachS (turnA true 7) al1 [32] = (0, al2) := by rfl
theorem al_at : tE (atO al2 32) = 7 := by rfl
theorem al_fit1 : Fit al1 := ⟨by simp [al1], by intro e he; simp [al1] at he; subst he; exact ⟨by decide, by decide, by decide, by decide⟩⟩
theorem al_fit2 : Fit al2 := ⟨by simp [al2], by intro e he; simp [al2] at he; subst he; exact ⟨by decide, by decide, by decide, by decide⟩⟩

theorem ads_one {W : World} {p base : Nat} {v : Value} {es : List Ent} {t : Int} (h : Led W base p v es) : Ads (W.alloc (.cells #[.int .u64 t] 33)) (LS p v) (some ⟨W.heap.size, 0, none⟩) 1 [t] := by
  refine ⟨rfl, fun _ => ⟨⟨W.heap.size, 0, none⟩, rfl, fun k => absurd (ls_lt h k) (Nat.lt_irrefl _), fun j u hj => ?_⟩⟩
  cases j with
  | zero =>
    simp at hj
    subst hj
    have h2 := heap_alloc_new W (.cells #[.int .u64 t] 33)
    show World.cell? (W.alloc (.cells #[.int .u64 t] 33)) ⟨W.heap.size, 0, none⟩ = _
    unfold World.cell?
    rw [h2]
    rfl
  | succ j => simp at hj
set_option maxRecDepth 100000 in
set_option maxHeartbeats 400000 in
theorem alive_any (w : World) : Calls Try.prog 5 #[] w fun r w' => r = .returned (.bool true) ∧ Below w.heap.size w w' := by
  have HL0 := Lib.hid (led_new w)
  have H1 : Hid (∀ W v, Led W w.heap.size w.heap.size v [] → Calls Try.prog 18 #[.pointer (some ⟨w.heap.size, 0, none⟩), .agg #[.int .u64 32, .int .u64 16, .int .u64 16]] W fun r w' => r = .returned (.int .i64 0) ∧ ∃ v', Led w' w.heap.size w.heap.size v' al1 ∧ Below w.heap.size W w') :=
    Lib.hid (fun W v h => (add_any _ _ v [] 32 16 16 W (by simp) fit_nil h (by omega) (by omega) (by omega) (by omega) (by omega) (by omega)).mono fun r w' k => by
      rw [al_add1] at k
      obtain ⟨k1, v', k2, k3, _⟩ := k
      exact ⟨k1, v', k2, h.below_mod k3⟩)
  have H2 : Hid (∀ W v, Led W w.heap.size w.heap.size v al1 → Calls Try.prog 18 #[.pointer (some ⟨w.heap.size, 0, none⟩), .agg #[.int .u64 40, .int .u64 8, .int .u64 8]] W fun r w' => r = .returned (.int .i64 6) ∧ ∃ v', Led w' w.heap.size w.heap.size v' al1 ∧ Below w.heap.size W w') :=
    Lib.hid (fun W v h => (add_any _ _ v al1 40 8 8 W (by simp [al1]) al_fit1 h (by omega) (by omega) (by omega) (by omega) (by omega) (by omega)).mono fun r w' k => by
      rw [al_add2] at k
      obtain ⟨k1, v', k2, k3, _⟩ := k
      exact ⟨k1, v', k2, h.below_mod k3⟩)
  have H3 : Hid (∀ W v, Led W w.heap.size w.heap.size v al1 → Calls Try.prog 15 #[.pointer (some ⟨w.heap.size, 0, none⟩), .slice (some ⟨W.heap.size, 0, none⟩) 1 1] (W.alloc (.cells #[.int .u64 32] 33)) fun r w' => r = .returned (.int .i64 0) ∧ ∃ v', Led w' w.heap.size w.heap.size v' al2 ∧ Below w.heap.size W w') :=
    Lib.hid (fun W v h => (hold_any _ _ 1 1 (some ⟨W.heap.size, 0, none⟩) [32] v al1 (W.alloc (.cells #[.int .u64 32] 33)) (by simp [al1]) al_fit1 (h.box _) (ads_one h) (by omega)).mono fun r w' k => by
      unfold HoldPost at k
      rw [al_hold] at k
      obtain ⟨k1, v', k2, _, k3⟩ := k
      exact ⟨k1, v', k2, (((Below.refl _ W).alloc (Nat.le_of_lt h.lt) _)).trans ((h.box _).below_mod k3)⟩)
  go_enter Try.func5, Try.ntmps5
  go_wp2_with (first
    | (go_at_call 18; (with_reducible refine (H1.out _ _ HL0.out).mono ?_); rintro r w1 ⟨rfl, v1, hL1, hb1⟩; have HL1 := Lib.hid hL1; have HB1 := Lib.hid hb1; clear hL1 hb1)
    | (go_at_call 18; (with_reducible refine (H2.out _ _ HL1.out).mono ?_); rintro r w2 ⟨rfl, v2, hL2, hb2⟩; have HL2 := Lib.hid hL2; have HB2 := Lib.hid hb2; clear hL2 hb2)
    | (go_at_call 15; (with_reducible refine (H3.out _ _ HL2.out).mono ?_); rintro r w3 ⟨rfl, v3, hL3, hb3⟩; have HL3 := Lib.hid hL3; have HB3 := Lib.hid hb3; clear hL3 hb3)
    | (go_at_call 13; refine (at_any _ _ v3 al2 32 w3 (by simp [al2]) al_fit2.rising HL3.out).mono ?_; rw [al_at]; rintro r w4 ⟨rfl, hb4⟩; have HB4 := Lib.hid hb4; clear hb4)
    | (go_at_call 9; refine (all_any _ _ v3 al2 _ (by simp [al2]) (by exact (HL3.out.below HB4.out (Nat.le_refl _)).box _)).mono ?_; rintro r w5 ⟨u, rfl, ho5, hb5⟩; obtain ⟨A5, c5, rfl, _, _⟩ := own_form ho5; have HB5 := Lib.hid hb5; clear hb5 ho5)
    | (go_at_call 19; refine (drop_nil _).mono ?_; rintro r w6 ⟨rfl, hb6⟩; have HB6 := Lib.hid hb6; clear hb6))
  go_ret
  have hz0 : w.heap.size ≤ w1.heap.size := Nat.le_of_lt HL1.out.lt
  refine ⟨rfl, ?_⟩
  have b0 : Below w.heap.size w w1 := ((Below.refl _ w).alloc (Nat.le_refl _) _).trans HB1.out
  have b3 := (b0.trans HB2.out).trans HB3.out
  have b4 := b3.trans (HB4.out.mono b3.size)
  have b5 := (b4.alloc b4.size _).trans (HB5.out.mono (by have := b4.size; simp; omega))
  exact b5.trans (HB6.out.mono b5.size)
end Go.Proofs.Ytgkloacfickeaaa
