/- Through any acts both ledgers answer alike. -/
import Derived.Test.YtgkloacfickeaaaAlive
import Derived.Test.YtgkloacfickeaaaOpen
import Derived.Deep.DrawnRows
namespace Go.Proofs.Ytgkloacfickeaaa
open Go.RowKit
set_option linter.unusedVariables false
attribute [local go_sem ↓] Go.wp_at_zero Go.wp_at_succ

theorem Both.mod {w w' : World} {base p q B : Nat} {es : List Ent} (h : Both w base p q es) (hb : Below B w w') (hB : w.heap.size ≤ B) : Both w' base p q es := by
  obtain ⟨v, vL, vH, hL, hR⟩ := h
  exact ⟨v, vL, vH, hL.below hb hB, hR.below hb hB⟩
theorem both_new (w : World) (base : Nat) (hb : base ≤ w.heap.size) : Both ((w.alloc (.cells #[.slice none 0 0] 27)).alloc (.cells #[.slice none 0 0, .slice none 0 0] 32)) base w.heap.size (w.heap.size + 1) [] := by
  refine ⟨.slice none 0 0, .slice none 0 0, .slice none 0 0, ⟨hb, ?_, rfl, .inl ⟨rfl, rfl⟩⟩, ⟨by omega, ?_, ⟨rfl, .inl ⟨rfl, rfl⟩⟩, ⟨rfl, .inl ⟨rfl, rfl⟩⟩⟩⟩
  · exact (Below.heap_alloc _ _ _ (by simp)).trans (heap_alloc_new w _)
  · have h := heap_alloc_new (w.alloc (.cells #[.slice none 0 0] 27)) (.cells #[.slice none 0 0, .slice none 0 0] 32)
    rw [World.size_alloc] at h
    exact h

set_option maxRecDepth 100000 in
set_option maxHeartbeats 4000000 in
theorem acts_walk (AA : Option Addr) (N C : Nat) (acts : List ActV) (w : World) (hA : Acts w w.heap.size AA N acts) (hok : ∀ x ∈ acts, ActOk w w.heap.size x) (hN : N ≤ 9223372036854775807) :
    Calls Try.prog 3 #[.slice AA N C] w fun e w' => e = .returned (.bool true) ∧ Below w.heap.size w w' := by
  have HA := Lib.hid hA
  have HK := Lib.hid hok
  have HG : Hid (∀ W, Below w.heap.size w W → Calls Try.prog 6 #[.slice AA N C] W fun r w' => (∃ b, r = .returned (.bool b) ∧ (b = false → N ≤ 100)) ∧ Below W.heap.size W w') := Lib.hid (fun W hW => great_any AA N C acts W ⟨hA.1, fun h0 => by
    obtain ⟨b, o, e, hb, hc⟩ := hA.2 h0
    exact ⟨b, o, e, Nat.lt_of_lt_of_le hb hW.size, fun k x hx => (hc k x hx).keep hW hb⟩⟩ hN)
  clear hA hok
  go_enter Try.func3, Try.ntmps3
  go_wp2_with (first
    | (go_at_call 5; refine (alive_any w).mono ?_; rintro r w1 ⟨rfl, hb1⟩; have hz1 := hb1.size)
    | (go_at_call 6; refine (HG.out _ hb1).mono ?_; rintro r w2 ⟨⟨b, rfl, hbN⟩, hb2⟩; have hz2 := hb2.size; have HB2 := Lib.hid (hb1.trans (hb2.mono hz1)); have HBN := Lib.hid hbN; clear hbN hb1 hb2; cases b))
  · have h100 : N ≤ 100 := HBN.out (by trivial)
    have hz : w.heap.size ≤ w2.heap.size := by omega
    go_wp2
    go_loopw [15] (fun i wr => ∃ (k : Nat) (es : List Ent), k ≤ N ∧ i = .int .i64 k ∧ Both wr w.heap.size w2.heap.size (w2.heap.size + 1) es ∧ Fit es ∧ es.length ≤ k ∧ Below w.heap.size w wr) (fun i _ => N - (intOf i).toNat)
    case atStart => exact ⟨0, [], Nat.zero_le _, rfl, by first | exact both_new w2 _ hz | simpa using both_new w2 _ hz, fit_nil, Nat.le_refl _, (HB2.out.alloc hz _).alloc (by simp; omega) _⟩
    case round =>
      obtain ⟨k, es, hk, rfl, hBo, hFi, hle, hB⟩ := hrel
      have hzr := hB.size
      by_cases hlt : k < N
      · obtain ⟨b, o, x, rfl, hab, hx, hat⟩ := HA.out.at hlt
        obtain ⟨h0, h1, h2, h3, h4⟩ := hat.keep hB hab
        have hki : (k : Int) < N := by omega
        obtain ⟨k0, k1, k2, k3, k4, k5, k6, k7⟩ := HK.out x (List.mem_of_getElem? hx)
        have hbx : Below wr.heap.size wr ((wr.alloc (.cells #[.int .i64 x.kind, .int .u64 x.a, .int .u64 x.n, .int .u64 x.al, .slice x.A x.m x.c] 38)).drew) := ((Below.refl _ wr).alloc (Nat.le_refl _) _).drew
        have HX := Lib.hid (hB.trans (hbx.mono hzr))
        have HD := Lib.hid (do_any w2.heap.size (w2.heap.size + 1) w.heap.size x.m x.c x.kind x.a x.n x.al x.A x.xs es _ (by omega) hFi (hBo.mod hbx (Nat.le_refl _)) (k0.keep (hB.trans (hbx.mono hzr))) k1 k2 k3 k4 k5 k6 k7)
        clear hx hat k0 hFi hBo hbx
        go_wp2
        go_region_with (first
          | (go_at_call 7; (with_reducible refine HD.out.mono ?_); rintro r w3 ⟨rfl, es', ⟨v', vL', vH', hL', hR'⟩, hF', hl', hb3⟩; obtain ⟨A2, c2, rfl, _, _⟩ := own_form hR'.2.2.1; have hq3 := hR'.cell0; have HL' := Lib.hid hL'; have HR' := Lib.hid hR'; have HF' := Lib.hid hF'; have HB3 := Lib.hid (HX.out.trans hb3); clear hL' hR' hF' hb3)
          | (go_at_call 9; (with_reducible refine (all_any w2.heap.size w.heap.size v' es' w3 (by omega) HL'.out).mono ?_); rintro r w4 ⟨u, rfl, ho4, hb4⟩; obtain ⟨A5, c5, rfl, _, _⟩ := own_form ho4; have HO4 := Lib.hid ho4; have HB4 := Lib.hid hb4; have hq4 := (HR'.out.below hb4 (Nat.le_refl _)).cell0; have HOW := Lib.hid (HR'.out.below hb4 (Nat.le_refl _)).2.2.1; clear ho4 hb4)
          | (go_at_call 8; (with_reducible refine (same_any _ _ c5 c2 A5 A2 es' w4 (by omega) HO4.out HOW.out).mono ?_); rintro r w5 ⟨rfl, hb5⟩; have HB5 := Lib.hid (HB4.out.trans (hb5.mono HB4.out.size)); clear hb5)
          | (go_at_call 10; (with_reducible refine (bytes_any w2.heap.size w.heap.size v' es' w5 (by omega) HF'.out (HL'.out.below HB5.out (Nat.le_refl _))).mono ?_); rintro r w6 ⟨rfl, hb6⟩; have HB6 := Lib.hid (HB5.out.trans (hb6.mono HB5.out.size)); clear hb6)
          | (go_at_call 11; (with_reducible refine (rbytes_any (w2.heap.size + 1) w.heap.size _ vH' es' w6 (by omega) HF'.out (HR'.out.below HB6.out (Nat.le_refl _))).mono ?_); rintro r w7 ⟨rfl, hb7⟩; have HB7 := Lib.hid (HB6.out.trans (hb7.mono HB6.out.size)); clear hb7))
        all_goals
          go_wp2
          go_roundw
          case rel => exact ⟨k + 1, es', by omega, by go_num, ⟨v', _, vH', HL'.out.below HB7.out (Nat.le_refl _), HR'.out.below HB7.out (Nat.le_refl _)⟩, HF'.out, by omega, HB3.out.trans (HB7.out.mono HB3.out.size)⟩
          case measure => simp [intOf]; omega
      · go_wp2
        go_ret
        exact ⟨rfl, hB⟩
  · go_wp2
    go_ret
    exact ⟨rfl, HB2.out⟩
end Go.Proofs.Ytgkloacfickeaaa
