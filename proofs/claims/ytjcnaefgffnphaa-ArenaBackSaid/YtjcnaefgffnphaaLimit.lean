/- Under a limit just as many are given, one by one: the walk. -/
import Derived.Test.YtjcnaefgffnphaaLaw
import Derived.Test.YtjcnaefgffnphaaLimitLaw
namespace Go.Proofs.Ytjcnaefgffnphaa
open Go.RowKit
set_option linter.unusedVariables false

theorem res_to {B p : Nat} {s : St} {w : World} {n a e : Int} {s' : St} (h : Arn B w p s) (hf : s.refused + 1 ≤ 1000000) (he : resS s n = (a, e, s')) :
    Calls Try.prog 11 #[.pointer (some ⟨p, 0, none⟩), .int .i64 n] w fun r w' => r = .returned (.tuple #[.int .i64 a, .int .i64 e]) ∧ Arn B w' p s' ∧ Below B w w' :=
  (res_law h n hf).mono fun r w' k => by rw [he] at k; exact k
theorem rel_to {B p : Nat} {s : St} {w : World} {t e : Int} {s' : St} (h : Arn B w p s) (he : relS s t = (e, s')) :
    Calls Try.prog 12 #[.pointer (some ⟨p, 0, none⟩), .int .i64 t] w fun r w' => r = .returned (.int .i64 e) ∧ Arn B w' p s' ∧ Below B w w' :=
  (rel_law h t).mono fun r w' k => by rw [he] at k; exact k

set_option maxRecDepth 100000 in
set_option maxHeartbeats 2000000 in
theorem limit_walk (a b : Nat) (w : World) (ha : a ≤ 255) (hb : b ≤ 255) :
    Calls Try.prog 3 #[.int .u8 a, .int .u8 b] w fun r w' => r = .returned (.bool true) ∧ Below w.heap.size w w' := by
  obtain ⟨n, hn⟩ : ∃ n : Nat, n = a % 64 + 1 := ⟨_, rfl⟩
  obtain ⟨k, hk⟩ : ∃ k : Nat, k = b % (n + 1) := ⟨_, rfl⟩
  have hn1 : 1 ≤ n := by omega
  have hn2 : n ≤ 64 := by omega
  have hkn : k ≤ n := by rw [hk]; have := Nat.mod_lt b (show 0 < n + 1 by omega); omega
  have hnI : (a : Int) % 64 + 1 = (n : Int) := by omega
  have hkI : (b : Int) % ((n : Int) + 1) = (k : Int) := by rw [hk]; simp
  have haI : (a : Int) ≤ 255 := by omega
  have hbI : (b : Int) ≤ 255 := by omega
  have hn1I : (1 : Int) ≤ n := by omega
  have hn2I : (n : Int) ≤ 64 := by omega
  have hknI : (k : Int) ≤ n := by omega
  clear hn hk
  go_enter Try.func3, Try.ntmps3
  go_wp2_with (first
    | (go_at_call 9; refine (alive_any w).mono ?_; rintro r w1 ⟨rfl, hb1⟩)
    | (go_at_call 10; refine (new_law n k w.heap.size _ rfl rfl hn1 hn2 hkn hb1.size).mono ?_; rintro r w2 ⟨p, rfl, hA2, hb2⟩; have HA2 := Lib.hid hA2; have HB2 := Lib.hid (hb1.trans hb2); clear hA2 hb2 hb1))
  clear hnI hkI
  go_loopw [32] (fun j wr => ∃ c : Nat, c ≤ 2 ∧ j = .int .i64 c ∧ Arn w.heap.size wr p ⟨n, k, [], [], c * (n - k)⟩ ∧ Below w.heap.size w wr) (fun j _ => 2 - (intOf j).toNat)
  case atStart => exact ⟨0, by omega, rfl, by simpa [stNew] using HA2.out, HB2.out⟩
  case round =>
    obtain ⟨c, hc, rfl, hA, hB⟩ := hrel
    obtain ⟨wo, rfl⟩ : ∃ wo : World, wo = wr := ⟨_, rfl⟩
    have HA := Lib.hid hA
    have HB := Lib.hid hB
    clear hA hB
    have hmul : c * (n - k) ≤ 2 * 64 := Nat.mul_le_mul hc (by omega)
    by_cases hlt : c < 2
    · have hci : (c : Int) < 2 := by omega
      go_wp2
      go_loopw [35] (fun i wr => ∃ m : Nat, m ≤ n ∧ i = .int .i64 m ∧ Arn w.heap.size wr p ⟨n, k, ones 0 (min m k), [], c * (n - k) + (m - k)⟩ ∧ Below w.heap.size w wr) (fun i _ => n - (intOf i).toNat)
      case atStart => exact ⟨0, by omega, rfl, by simpa [ones_nil] using HA.out, HB.out⟩
      case round =>
        obtain ⟨m, hm, rfl, hA1, hB1⟩ := hrel
        by_cases hmn : m < n
        · have hmi : (m : Int) < n := by omega
          by_cases hmk : m < k
          · have hmki : (m : Int) < k := by omega
            rw [Nat.min_eq_left (by omega)] at hA1
            have HX := Lib.hid (res_to hA1 (by show c * (n - k) + (m - k) + 1 ≤ 1000000; omega) (lim_res hkn hmk))
            have HB1 := Lib.hid hB1
            clear hA1 hB1
            go_wp2_with (go_at_call 11; (with_reducible refine HX.out.mono ?_); rintro r w3 ⟨rfl, hA3, hb3⟩; have HA3 := Lib.hid hA3; have HB3 := Lib.hid hb3; clear hA3 hb3)
            go_roundw
            case rel => exact ⟨m + 1, by omega, by go_num, by rw [Nat.min_eq_left (by omega), show m + 1 - k = m - k by omega]; exact HA3.out, HB1.out.trans HB3.out⟩
            case measure => simp [intOf]; omega
          · have hmki : (k : Int) ≤ m := by omega
            rw [Nat.min_eq_right (by omega)] at hA1
            have HX := Lib.hid (res_to hA1 (by show c * (n - k) + (m - k) + 1 ≤ 1000000; omega) (lim_res_no hkn hn1))
            have HB1 := Lib.hid hB1
            clear hA1 hB1
            go_wp2_with (go_at_call 11; (with_reducible refine HX.out.mono ?_); rintro r w3 ⟨rfl, hA3, hb3⟩; have HA3 := Lib.hid hA3; have HB3 := Lib.hid hb3; clear hA3 hb3)
            go_roundw
            case rel => exact ⟨m + 1, by omega, by go_num, by rw [Nat.min_eq_right (by omega), show c * (n - k) + (m + 1 - k) = c * (n - k) + (m - k) + 1 by omega]; exact HA3.out, HB1.out.trans HB3.out⟩
            case measure => simp [intOf]; omega
        · obtain rfl : m = n := by omega
          have hmi : decide ((m : Int) < m) = false := by simp
          rw [Nat.min_eq_right hkn] at hA1
          have HA1 := Lib.hid hA1
          have HB1 := Lib.hid hB1
          clear hA1 hB1
          obtain ⟨wi, rfl⟩ : ∃ wi : World, wi = wr := ⟨_, rfl⟩
          go_wp2
          go_loopw [68] (fun i wr => ∃ j : Nat, j ≤ k ∧ i = .int .i64 j ∧ Arn w.heap.size wr p ⟨m, k, ones j k, [], c * (m - k) + (m - k)⟩ ∧ Below w.heap.size w wr) (fun i _ => k - (intOf i).toNat)
          case atStart => exact ⟨0, by omega, rfl, HA1.out, HB1.out⟩
          case round =>
            obtain ⟨j, hj, rfl, hA2, hB2⟩ := hrel
            by_cases hjk : j < k
            · have hji : (j : Int) < k := by omega
              have HX := Lib.hid (rel_to hA2 (lim_rel hjk))
              have HBB := Lib.hid hB2
              clear hA2 hB2
              go_wp2_with (go_at_call 12; (with_reducible refine HX.out.mono ?_); rintro r w3 ⟨rfl, hA3, hb3⟩; have HA3 := Lib.hid hA3; have HB3 := Lib.hid hb3; clear hA3 hb3)
              go_roundw
              case rel => exact ⟨j + 1, by omega, by go_num, HA3.out, HBB.out.trans HB3.out⟩
              case measure => simp [intOf]; omega
            · obtain rfl : j = k := by omega
              have hji : decide ((j : Int) < j) = false := by simp
              have HAA := Lib.hid hA2
              have HBB := Lib.hid hB2
              clear hA2 hB2
              go_wp2
              go_roundw
              case rel => exact ⟨c + 1, by omega, by go_num, by have h := HAA.out; rw [ones_nil] at h; rw [Nat.succ_mul]; exact h, HBB.out⟩
              case measure => simp [intOf]; omega
    · obtain rfl : c = 2 := by omega
      go_wp2_with (first
        | (go_at_call 13; refine (giv_law HA.out).mono ?_; rintro r w5 ⟨rfl, m, rfl⟩; rw [show given [] = 0 from rfl])
        | (go_at_call 14; refine (ref_law (B := w.heap.size) (s := ⟨n, k, [], [], 2 * (n - k)⟩) (HA.out.below (below_drewN (Below.refl _ _) _))).mono ?_; rintro r w6 ⟨rfl, rfl⟩; rw [show ((2 * (n - k) : Nat) : Int) = 2 * ((n : Int) - k) by omega]))
      go_ret
      exact ⟨rfl, below_drewN HB.out _⟩
end Go.Proofs.Ytjcnaefgffnphaa
