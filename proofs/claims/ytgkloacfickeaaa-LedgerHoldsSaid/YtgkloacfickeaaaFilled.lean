/- A ledger of acts. -/
import Derived.Test.YtgkloacfickeaaaAlive
import Derived.Test.YtgkloacfickeaaaOpen
namespace Go.Proofs.Ytgkloacfickeaaa
open Go.RowKit
set_option linter.unusedVariables false

set_option maxRecDepth 100000 in
set_option maxHeartbeats 4000000 in
theorem filled_any (AA : Option Addr) (N C : Nat) (acts : List ActV) (w : World) (hA : Acts w w.heap.size AA N acts) (hok : ∀ x ∈ acts, ActOk w w.heap.size x) (hN : N ≤ 100) :
    Calls Try.prog 12 #[.slice AA N C] w fun r w' => ∃ p v es, r = .returned (.pointer (some ⟨p, 0, none⟩)) ∧ Led w' w.heap.size p v es ∧ Fit es ∧ es.length ≤ 100 ∧ Below w.heap.size w w' := by
  have HA := Lib.hid hA
  have HK := Lib.hid hok
  clear hA hok
  go_enter Try.func12, Try.ntmps12
  go_wp2
  go_loopw [8] (fun i wr => ∃ (k : Nat) (v : Value) (es : List Ent), k ≤ N ∧ i = .int .i64 k ∧ Led wr w.heap.size w.heap.size v es ∧ Fit es ∧ es.length ≤ k ∧ Below w.heap.size w wr) (fun i _ => N - (intOf i).toNat)
  case atStart => exact ⟨0, _, [], Nat.zero_le _, rfl, led_new w, fit_nil, Nat.le_refl _, (Below.refl _ w).alloc (Nat.le_refl _) _⟩
  case round =>
    obtain ⟨k, v, es, hk, rfl, hL, hFi, hle, hB⟩ := hrel
    have hzr := hB.size
    by_cases hlt : k < N
    · obtain ⟨b, o, x, rfl, hab, hx, hat⟩ := HA.out.at hlt
      obtain ⟨h0, h1, h2, h3, h4⟩ := hat.keep hB hab
      have hki : (k : Int) < N := by omega
      obtain ⟨k0, k1, k2, k3, k4, k5, k6, k7⟩ := HK.out x (List.mem_of_getElem? hx)
      have hbx : Below wr.heap.size wr (wr.alloc (.cells #[.int .i64 x.kind, .int .u64 x.a, .int .u64 x.n, .int .u64 x.al, .slice x.A x.m x.c] 38)) := (Below.refl _ wr).alloc (Nat.le_refl _) _
      have hL1 := hL.below hbx (Nat.le_refl _)
      have hA1 := k0.keep (hB.trans (hbx.mono hzr))
      have HX := Lib.hid (hB.trans (hbx.mono hzr))
      have HL1 := Lib.hid hL1
      have HA1 := Lib.hid hA1
      have HF := Lib.hid hFi
      clear hx hat k0 hL hbx hL1 hA1 hFi
      by_cases e0 : x.kind = 0
      · have t0 : (x.kind == 0) = true := by simpa using e0
        have t1 : (x.kind == 1) = false := by simp [e0]
        have t2 : (x.kind == 2) = false := by simp [e0]
        clear e0
        go_wp2_with (go_at_call 18; (with_reducible refine (add_any w.heap.size w.heap.size v es x.a x.n x.al _ (by omega) HF.out HL1.out k2 k3 k4 k5 k6 k7).mono ?_); rintro r w2 ⟨rfl, v2, hL2, hm2, _⟩; have HL2 := Lib.hid hL2; have HM2 := Lib.hid hm2; clear hL2 hm2)
        go_roundw
        case rel => exact ⟨k + 1, v2, _, by omega, by go_num, HL2.out, (fit_add HF.out k2 k4 k6).1, by have := (fit_add HF.out k2 k4 k6 (n := x.n)).2; omega, HX.out.trans (HL1.out.below_mod HM2.out)⟩
        case measure => simp [intOf]; omega
      · by_cases e1 : x.kind = 1
        · have t0 : (x.kind == 0) = false := by simp [e1]
          have t1 : (x.kind == 1) = true := by simpa using e1
          have t2 : (x.kind == 2) = false := by simp [e1]
          clear e0 e1
          go_wp2_with (go_at_call 19; (with_reducible refine (drop_any w.heap.size w.heap.size x.m x.c x.A x.xs v es _ (by omega) HF.out HL1.out (HA1.out.ads HL1.out) k1).mono ?_); rintro r w2 ⟨rfl, v2, hL2, _, hm2⟩; have HL2 := Lib.hid hL2; have HM2 := Lib.hid hm2; clear hL2 hm2)
          go_roundw
          case rel => exact ⟨k + 1, v2, _, by omega, by go_num, HL2.out, (fit_drops HF.out x.xs).1, by have := (fit_drops HF.out x.xs).2; omega, HX.out.trans (HL1.out.below_mod HM2.out)⟩
          case measure => simp [intOf]; omega
        · by_cases e2 : x.kind = 2
          · have t0 : (x.kind == 0) = false := by simp [e2]
            have t1 : (x.kind == 1) = false := by simp [e2]
            have t2 : (x.kind == 2) = true := by simpa using e2
            clear e0 e1 e2
            go_wp2_with (go_at_call 15; (with_reducible refine (hold_any w.heap.size w.heap.size x.m x.c x.A x.xs v es _ (by omega) HF.out HL1.out (HA1.out.ads HL1.out) k1).mono ?_); rintro r w2 ⟨rfl, v2, hL2, _, hm2⟩; have HL2 := Lib.hid hL2; have HM2 := Lib.hid hm2; clear hL2 hm2)
            go_roundw
            case rel => exact ⟨k + 1, v2, _, by omega, by go_num, HL2.out, (fit_turns HF.out true 7 x.xs).1, by have := (fit_turns HF.out true 7 x.xs).2; omega, HX.out.trans (HL1.out.below_mod HM2.out)⟩
            case measure => simp [intOf]; omega
          · have t0 : (x.kind == 0) = false := by simpa using e0
            have t1 : (x.kind == 1) = false := by simpa using e1
            have t2 : (x.kind == 2) = false := by simpa using e2
            clear e0 e1 e2
            go_wp2
            go_roundw
            case rel => exact ⟨k + 1, v, es, by omega, by go_num, HL1.out, HF.out, by omega, HX.out⟩
            case measure => simp [intOf]; omega
    · have HL := Lib.hid hL
      have HF := Lib.hid hFi
      clear hL hFi
      go_wp2
      go_ret
      exact ⟨w.heap.size, v, es, rfl, HL.out, HF.out, by omega, hB⟩
end Go.Proofs.Ytgkloacfickeaaa
