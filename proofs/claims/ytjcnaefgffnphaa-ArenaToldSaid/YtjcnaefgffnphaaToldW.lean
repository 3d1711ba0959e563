/- As often as it was told true it is refused: the walk. -/
import Derived.Test.YtjcnaefgffnphaaLimit
import Derived.Test.YtjcnaefgffnphaaOpen
import Derived.Test.YtjcnaefgffnphaaToldLaw
namespace Go.Proofs.Ytjcnaefgffnphaa
open Go.RowKit
set_option linter.unusedVariables false

theorem rfs_told (bs : List Bool) (h : bs.length ≤ 60) : rfsS (stNew 64 64) bs = (0, tolSt bs 0) := by
  unfold rfsS
  rw [if_neg (by simp [stNew]; omega)]
  simp [stNew, tolSt, ones_nil, cntT]
theorem giv_told (bs : List Bool) : given (ones 0 (bs.length - cntT bs + 1)) = bs.length - cntT bs + 1 := by rw [given_ones _ _ (by omega)]; omega

set_option maxRecDepth 100000 in
set_option maxHeartbeats 2000000 in
theorem told_walk (A : Option Addr) (c : Nat) (bs : List Bool) (w : World) (hR : Reads w w.heap.size 1 A bs.length (bs.map Value.bool)) (hc : bs.length ≤ c) (hm : c ≤ maxLen) :
    Calls Try.prog 4 #[.slice A bs.length c] w fun r w' => r = .returned (.bool true) ∧ Below w.heap.size w w' := by
  unfold maxLen at hm
  by_cases h60 : bs.length ≤ 60
  · have h60I : (bs.length : Int) ≤ 60 := by omega
    have HR := Lib.hid hR
    clear hR
    go_enter Try.func4, Try.ntmps4
    go_wp2_with (first
      | (go_at_call 9; refine (alive_any w).mono ?_; rintro r w1 ⟨rfl, hb1⟩)
      | (go_at_call 10; refine (new_law 64 64 w.heap.size _ rfl rfl (by omega) (by omega) (by omega) hb1.size).mono ?_; rintro r w2 ⟨p, rfl, hA2, hb2⟩; have HA2 := Lib.hid hA2; have HB2 := Lib.hid (hb1.trans hb2); clear hA2 hb2 hb1)
      | (go_at_call 15; refine (rfs_law HA2.out bs A c ((HR.out.below HB2.out).more HB2.out.size) (by omega)).mono ?_; rintro r w3 ⟨rfl, hA3, hb3⟩; rw [rfs_told bs h60] at hA3 ⊢; have HA3 := Lib.hid hA3; have HB3 := Lib.hid (HB2.out.trans hb3); clear hA3 hb3))
    go_loopw [5, 33] (fun no i wr => ∃ k : Nat, k ≤ bs.length ∧ i = .int .i64 k ∧ no = .int .i64 (cntT (bs.take k)) ∧ Arn w.heap.size wr p (tolSt bs k) ∧ Below w.heap.size w wr) (fun _ i _ => bs.length - (intOf i).toNat)
    case atStart => exact ⟨0, by omega, rfl, by simp [cntT], HA3.out, HB3.out⟩
    case round =>
      obtain ⟨k, hk, rfl, rfl, hA, hB⟩ := hrel
      have hcl := cntT_le bs k
      have hclI : (cntT (bs.take k) : Int) ≤ k := by omega
      by_cases hlt : k < bs.length
      · obtain ⟨ad, u, rfl, hbb, hu, hcell⟩ := HR.out.at_ hlt
        obtain ⟨x, hx⟩ : ∃ x, bs[k]? = some x := ⟨bs[k], by simp [hlt]⟩
        rw [List.getElem?_map, hx] at hu
        cases hu
        have hck : wr.cell? (ad.add k) = some (.bool x) := (hB.cell (p := ad.add k) (by rw [block_of_add]; exact hbb)).trans hcell
        have hki : (k : Int) < bs.length := by omega
        have hs := cntT_snoc hx
        have hst := tol_step hx (by omega)
        have HS := Lib.hid hs
        have HB := Lib.hid hB
        cases x
        · have HX := Lib.hid (res_to hA (by show cntT (bs.take k) + 1 ≤ 1000000; omega) (by simpa using hst))
          clear hs hst hx hcell hA hB
          go_wp2_with (go_at_call 11; (with_reducible refine HX.out.mono ?_); rintro r w4 ⟨rfl, hA4, hb4⟩; have HA4 := Lib.hid hA4; have HB4 := Lib.hid (HB.out.trans hb4); clear hA4 hb4)
          go_roundw
          case rel => exact ⟨k + 1, by omega, by go_num, by rw [HS.out]; rfl, HA4.out, HB4.out⟩
          case measure => simp [intOf]; omega
        · have HX := Lib.hid (res_to hA (by show cntT (bs.take k) + 1 ≤ 1000000; omega) (by simpa using hst))
          clear hs hst hx hcell hA hB
          go_wp2_with (go_at_call 11; (with_reducible refine HX.out.mono ?_); rintro r w4 ⟨rfl, hA4, hb4⟩; have HA4 := Lib.hid hA4; have HB4 := Lib.hid (HB.out.trans hb4); clear hA4 hb4)
          go_roundw
          case rel => exact ⟨k + 1, by omega, by go_num, by rw [HS.out]; go_num, HA4.out, HB4.out⟩
          case measure => simp [intOf]; omega
      · obtain rfl : k = bs.length := by omega
        rw [List.take_length] at hcl hclI ⊢
        have hki : decide ((bs.length : Int) < bs.length) = false := by simp
        have HX := Lib.hid (res_to hA (by show cntT (bs.take bs.length) + 1 ≤ 1000000; rw [List.take_length]; omega) (tol_last h60))
        have hsub : ((bs.length - cntT bs : Nat) : Int) = (bs.length : Int) - cntT bs := by omega
        rw [hsub] at HX
        have HB := Lib.hid hB
        have HG := Lib.hid (giv_told bs)
        have HSUB := Lib.hid hsub
        clear hA hB hsub
        go_wp2_with (first
          | (go_at_call 11; (with_reducible refine HX.out.mono ?_); rintro r w4 ⟨rfl, hA4, hb4⟩; have HA4 := Lib.hid hA4; have HB4 := Lib.hid (HB.out.trans hb4); clear hA4 hb4)
          | (go_at_call 14; refine (ref_law HA4.out).mono ?_; rintro r w6 ⟨rfl, rfl⟩)
          | (go_at_call 13; refine (giv_law HA4.out).mono ?_; rintro r w5 ⟨rfl, m, rfl⟩; rw [HG.out, show ((bs.length - cntT bs + 1 : Nat) : Int) = (bs.length : Int) - cntT bs + 1 by have := HSUB.out; omega]))
        go_ret
        exact ⟨rfl, below_drewN HB4.out _⟩
  · have h60I : (60 : Int) < bs.length := by omega
    clear hR
    go_enter Try.func4, Try.ntmps4
    go_wp2_with (first
      | (go_at_call 9; refine (alive_any w).mono ?_; rintro r w1 ⟨rfl, hb1⟩)
      | (go_at_call 10; refine (new_law 64 64 w.heap.size _ rfl rfl (by omega) (by omega) (by omega) hb1.size).mono ?_; rintro r w2 ⟨p, rfl, hA2, hb2⟩; have HB2 := Lib.hid (hb1.trans hb2); clear hA2 hb2 hb1))
    go_ret
    exact ⟨rfl, HB2.out⟩
end Go.Proofs.Ytjcnaefgffnphaa
