/- A region stands as low as it can: the walk. -/
import Derived.Test.YtjcnaefgffnphaaLimit
import Derived.Test.YtjcnaefgffnphaaActs
import Derived.Test.YtjcnaefgffnphaaLowLaw
namespace Go.Proofs.Ytjcnaefgffnphaa
open Go.RowKit
set_option linter.unusedVariables false

/-- Reserve leaves rows of regions that others own. -/
theorem res_own {B p : Nat} {s s' : St} {n a e : Int} {w0 w : World} (h : Arn B w0 p s) (hb : Below w0.heap.size w0 w) (hf : s.refused + 1 ≤ 1000000) (he : resS s n = (a, e, s')) :
    Calls Try.prog 11 #[.pointer (some ⟨p, 0, none⟩), .int .i64 n] w fun r w' => r = .returned (.tuple #[.int .i64 a, .int .i64 e]) ∧ Arn B w' p s' ∧ Below B w w' ∧
      ∀ base u es, w0.heap.size ≤ base → OwnR w base u es → OwnR w' base u es := by
  obtain ⟨pm, g, vR, vT, h1, h2⟩ := h
  have h1' := h1.below hb
  refine (reserve_any p pm g vR vT s n w h1' hf).mono fun r w' ⟨a, b⟩ => ?_
  rw [he] at a b
  have hl := arn_left h1' h2 b
  refine ⟨a, hl.1, hl.2, fun base u es hbase ho => ?_⟩
  obtain ⟨vR', vT', _, hm, _⟩ := b
  exact ho.mod hm (fun k hk hS => by have := (ho.lt k hk).1; have := h1.lt k hS; omega)
theorem rel_shape {L : List Reg} {r : Nat} (t : Int) : ∃ e L', relS ⟨64, 64, L, [], r⟩ t = (e, ⟨64, 64, L', [], r⟩) := by
  unfold relS
  split
  · exact ⟨_, _, rfl⟩
  · exact ⟨_, _, rfl⟩

set_option maxRecDepth 100000 in
set_option maxHeartbeats 4000000 in
theorem low_walk (AA : Option Addr) (N C : Nat) (acts : List ActV) (w : World) (hA : Acts w w.heap.size AA N acts) (hok : ∀ x ∈ acts, ActOk w w.heap.size x) (hN : N ≤ 9223372036854775807) :
    Calls Try.prog 6 #[.slice AA N C] w fun r w' => r = .returned (.bool true) ∧ Below w.heap.size w w' := by
  have HA := Lib.hid hA
  have HK := Lib.hid hok
  clear hA hok
  by_cases h100 : N ≤ 100
  · have h100I : (N : Int) ≤ 100 := by omega
    go_enter Try.func6, Try.ntmps6
    go_wp2_with (first
      | (go_at_call 9; refine (alive_any w).mono ?_; rintro r w1 ⟨rfl, hb1⟩)
      | (go_at_call 10; refine (new_law 64 64 w.heap.size _ rfl rfl (by omega) (by omega) (by omega) hb1.size).mono ?_; rintro r w2 ⟨p, rfl, hA2, hb2⟩; have HA2 := Lib.hid hA2; have HB2 := Lib.hid (hb1.trans hb2); clear hA2 hb2 hb1))
    go_loopw [32] (fun i wr => ∃ (k : Nat) (L : List Reg) (r : Nat), k ≤ N ∧ i = .int .i64 k ∧ Arn w.heap.size wr p ⟨64, 64, L, [], r⟩ ∧ r ≤ k ∧ Below w.heap.size w wr) (fun i _ => N - (intOf i).toNat)
    case atStart => exact ⟨0, [], 0, by omega, rfl, HA2.out, Nat.le_refl _, HB2.out⟩
    case round =>
      obtain ⟨k, L, rf, hk, rfl, hAr, hrf, hB⟩ := hrel
      by_cases hlt : k < N
      · obtain ⟨b, o, x, rfl, hab, hx, hat⟩ := HA.out.at hlt
        obtain ⟨h0, h1, h2⟩ := hat.keep hB hab
        have hki : (k : Int) < N := by omega
        obtain ⟨_, _, _, hn1, hn2⟩ := HK.out x (List.mem_of_getElem? hx)
        have HAr := Lib.hid hAr
        have HB := Lib.hid hB
        clear hx hat hAr hB
        by_cases hkd : x.kind = 1
        · have hkb : (x.kind == 1) = true := by simp [hkd]
          have HKD := Lib.hid hkd
          clear hkd
          obtain ⟨e, L', he⟩ := rel_shape (L := L) (r := rf) x.n
          have HE := Lib.hid he
          clear he
          go_wp2_with (go_at_call 12; refine (rel_to (HAr.out.below ((Below.refl _ _).alloc (Nat.le_refl _) _)) HE.out).mono ?_; rintro r w3 ⟨rfl, hA3, hb3⟩; have HA3 := Lib.hid hA3; have HB3 := Lib.hid hb3; clear hA3 hb3)
          go_roundw
          case rel => exact ⟨k + 1, L', rf, by omega, by go_num, HA3.out, by omega, (HB.out.alloc HB.out.size _).trans HB3.out⟩
          case measure => simp [intOf]; omega
        · have hkb : (x.kind == 1) = false := by simpa using hkd
          have HKD := Lib.hid hkd
          clear hkd
          obtain ⟨m1, hm1⟩ : ∃ m1 : Int, (if 9 < x.n then 9 else x.n) = m1 := ⟨_, rfl⟩
          obtain ⟨n, hn⟩ : ∃ n : Nat, (if 1 < m1 then m1 else 1) = (n : Int) := ⟨(if 1 < m1 then m1 else 1).toNat, by split <;> omega⟩
          have hn19 : 1 ≤ n ∧ n ≤ 9 := by split at hm1 <;> split at hn <;> omega
          obtain ⟨hn1', hn9⟩ := hn19
          have hn1I : (1 : Int) ≤ n := by omega
          have hn9I : (n : Int) ≤ 9 := by omega
          have hgood : Good 64 L := HAr.out.ok.good
          have HG := Lib.hid hgood
          have hL64 : L.length ≤ 64 := by have := length_le_given hgood; have := given_le hgood; omega
          have hra := res_all (r := rf) hgood (show 0 < n by omega) (show n ≤ 64 by omega)
          cases hlow : lowF (cov L) 64 n
          case none =>
            rw [hlow] at hra
            simp only at hra
            have HRA := Lib.hid hra
            have HLOW := Lib.hid hlow
            clear hra hlow hgood
            go_wp2_with (first
              | (go_at_call 16; refine (regs_law (HAr.out.below ((Below.refl _ _).alloc (Nat.le_refl _) _))).mono ?_; rintro r w3 ⟨u, rfl, ho3, hb3⟩; obtain ⟨A3, c3, rfl, _, _⟩ := ho3.form; have hbx : w3.cell? ⟨wr.heap.size, 1, none⟩ = some (.int .i64 x.n) := (hb3.cell (p := ⟨wr.heap.size, 1, none⟩) (by simp)).trans (by simp); have HO3 := Lib.hid ho3; have HB3 := Lib.hid hb3; clear ho3 hb3)
              | (go_at_call 11; refine (res_own (HAr.out.below ((Below.refl _ _).alloc (Nat.le_refl _) _)) HB3.out (by show rf + 1 ≤ 1000000; omega) HRA.out).mono ?_; rintro r w4 ⟨rfl, hA4, hb4, hk4⟩; have HA4 := Lib.hid hA4; have HB4 := Lib.hid (((HB.out.alloc HB.out.size _).trans (HB3.out.mono (by have := HB.out.size; simp; omega))).trans hb4); have HO4 := Lib.hid (hk4 _ _ _ (Nat.le_refl _) HO3.out); clear hA4 hb4 hk4 hbx))
            have HM1 := Lib.hid hm1
            have HN := Lib.hid hn
            clear hm1 hn
            go_loopw [11] (fun q wq => ∃ qn : Nat, qn ≤ 64 ∧ q = .int .i64 qn ∧ (∀ j, j < qn → meets L j n = true) ∧ Below w4.heap.size w4 wq) (fun q _ => 64 - (intOf q).toNat)
            case atStart => exact ⟨0, by omega, rfl, fun j hj => by omega, Below.refl _ _⟩
            case round =>
              obtain ⟨q, hq, rfl, hall, hbq⟩ := hrel
              have HALL := Lib.hid hall
              have HBQ := Lib.hid hbq
              clear hall hbq
              by_cases hfit : q + n ≤ 64
              · have hfitI : (q : Int) + n ≤ 64 := by omega
                go_wp2
                go_loopw [12, 61] (fun m t wt => ∃ tn : Nat, tn ≤ L.length ∧ t = .int .i64 tn ∧ m = .bool (meets (L.take tn) q n) ∧ Below w4.heap.size w4 wt) (fun _ t _ => L.length - (intOf t).toNat)
                case atStart => exact ⟨0, Nat.zero_le _, rfl, by simp [meets], HBQ.out⟩
                case round =>
                  obtain ⟨t, ht, rfl, rfl, hbt⟩ := hrel
                  have HBT := Lib.hid hbt
                  clear hbt
                  by_cases htl : t < L.length
                  · obtain ⟨rg, hrg⟩ : ∃ rg, L[t]? = some rg := ⟨L[t], by simp [htl]⟩
                    have hot : OwnR _ _ _ L := HO4.out.mod (S := fun _ => False) (Mod.of_below HBT.out (Nat.le_refl _)) (fun _ _ h => h)
                    obtain ⟨gr, rfl, _, _, hc0, hc1, _⟩ := hot.at hrg
                    have hti : (t : Int) < L.length := by omega
                    have hgr := HG.out.2 rg (List.mem_of_getElem? hrg)
                    have hgrI : (rg.a : Int) + rg.n ≤ 64 := by omega
                    have HSN := Lib.hid (meets_snoc (q := q) (n := n) hrg)
                    clear hot hrg
                    obtain ⟨fl, hfl⟩ : ∃ fl, meets (L.take t) q n = fl := ⟨_, rfl⟩
                    rw [hfl] at HSN ⊢
                    clear hfl
                    cases fl
                    · by_cases h1 : q < rg.a + rg.n
                      · have h1I : (q : Int) < rg.a + rg.n := by omega
                        by_cases h2 : rg.a < q + n
                        · have h2I : (rg.a : Int) < q + n := by omega
                          go_wp2
                          go_roundw
                          case rel => exact ⟨t + 1, by omega, by go_num, by rw [HSN.out]; simp [meetR, h1, h2], HBT.out.alloc HBT.out.size _⟩
                          case measure => simp [intOf]; omega
                        · have h2I : (q : Int) + n ≤ rg.a := by omega
                          go_wp2
                          go_roundw
                          case rel => exact ⟨t + 1, by omega, by go_num, by rw [HSN.out]; first | (simp [meetR, h1, h2]; done) | (simp [meetR, h2]; omega), HBT.out.alloc HBT.out.size _⟩
                          case measure => simp [intOf]; omega
                      · have h1I : (rg.a : Int) + rg.n ≤ q := by omega
                        go_wp2
                        go_roundw
                        case rel => exact ⟨t + 1, by omega, by go_num, by rw [HSN.out]; simp [meetR, h1], HBT.out.alloc HBT.out.size _⟩
                        case measure => simp [intOf]; omega
                    · go_wp2
                      go_roundw
                      case rel => exact ⟨t + 1, by omega, by go_num, by rw [HSN.out]; simp, HBT.out.alloc HBT.out.size _⟩
                      case measure => simp [intOf]; omega
                  · obtain rfl : t = L.length := by omega
                    have hti : decide ((L.length : Int) < L.length) = false := by simp
                    rw [List.take_length]
                    cases hfl : meets L q n
                    · exact absurd (low_is HG.out (by omega) hfit hfl HALL.out) (by rw [HLOW.out]; simp)
                    · have HFL := Lib.hid hfl
                      clear hfl
                      go_wp2
                      go_roundw
                      case rel => exact ⟨q + 1, by omega, by go_num, fun j hj => (by rcases Nat.lt_or_ge j q with h | h; exact HALL.out j h; obtain rfl : j = q := (by omega); exact HFL.out), HBT.out⟩
                      case measure => simp [intOf]; omega
              · have hfitI : (64 : Int) < (q : Int) + n := by omega
                go_wp2
                go_roundw
                case rel => exact ⟨k + 1, _, _, by omega, by go_num, HA4.out.below HBQ.out, by omega, HB4.out.trans (HBQ.out.mono HB4.out.size)⟩
                case measure => simp [intOf]; omega
          case some a =>
            rw [hlow] at hra
            simp only at hra
            have HRA := Lib.hid hra
            have HLOW := Lib.hid hlow
            clear hra hlow hgood
            go_wp2_with (first
              | (go_at_call 16; refine (regs_law (HAr.out.below ((Below.refl _ _).alloc (Nat.le_refl _) _))).mono ?_; rintro r w3 ⟨u, rfl, ho3, hb3⟩; obtain ⟨A3, c3, rfl, _, _⟩ := ho3.form; have hbx : w3.cell? ⟨wr.heap.size, 1, none⟩ = some (.int .i64 x.n) := (hb3.cell (p := ⟨wr.heap.size, 1, none⟩) (by simp)).trans (by simp); have HO3 := Lib.hid ho3; have HB3 := Lib.hid hb3; clear ho3 hb3)
              | (go_at_call 11; refine (res_own (HAr.out.below ((Below.refl _ _).alloc (Nat.le_refl _) _)) HB3.out (by show rf + 1 ≤ 1000000; omega) HRA.out).mono ?_; rintro r w4 ⟨rfl, hA4, hb4, hk4⟩; have HA4 := Lib.hid hA4; have HB4 := Lib.hid (((HB.out.alloc HB.out.size _).trans (HB3.out.mono (by have := HB.out.size; simp; omega))).trans hb4); have HO4 := Lib.hid (hk4 _ _ _ (Nat.le_refl _) HO3.out); clear hA4 hb4 hk4 hbx))
            have HM1 := Lib.hid hm1
            have HN := Lib.hid hn
            clear hm1 hn
            have ha64 : a + n ≤ 64 := (lowF_free HLOW.out).1
            have ha64I : (a : Int) + n ≤ 64 := by omega
            go_loopw [11] (fun q wq => ∃ qn : Nat, qn ≤ 64 ∧ q = .int .i64 qn ∧ (∀ j, j < qn → meets L j n = true) ∧ Below w4.heap.size w4 wq) (fun q _ => 64 - (intOf q).toNat)
            case atStart => exact ⟨0, by omega, rfl, fun j hj => by omega, Below.refl _ _⟩
            case round =>
              obtain ⟨q, hq, rfl, hall, hbq⟩ := hrel
              have HALL := Lib.hid hall
              have HBQ := Lib.hid hbq
              clear hall hbq
              by_cases hfit : q + n ≤ 64
              · have hfitI : (q : Int) + n ≤ 64 := by omega
                go_wp2
                go_loopw [12, 61] (fun m t wt => ∃ tn : Nat, tn ≤ L.length ∧ t = .int .i64 tn ∧ m = .bool (meets (L.take tn) q n) ∧ Below w4.heap.size w4 wt) (fun _ t _ => L.length - (intOf t).toNat)
                case atStart => exact ⟨0, Nat.zero_le _, rfl, by simp [meets], HBQ.out⟩
                case round =>
                  obtain ⟨t, ht, rfl, rfl, hbt⟩ := hrel
                  have HBT := Lib.hid hbt
                  clear hbt
                  by_cases htl : t < L.length
                  · obtain ⟨rg, hrg⟩ : ∃ rg, L[t]? = some rg := ⟨L[t], by simp [htl]⟩
                    have hot : OwnR _ _ _ L := HO4.out.mod (S := fun _ => False) (Mod.of_below HBT.out (Nat.le_refl _)) (fun _ _ h => h)
                    obtain ⟨gr, rfl, _, _, hc0, hc1, _⟩ := hot.at hrg
                    have hti : (t : Int) < L.length := by omega
                    have hgr := HG.out.2 rg (List.mem_of_getElem? hrg)
                    have hgrI : (rg.a : Int) + rg.n ≤ 64 := by omega
                    have HSN := Lib.hid (meets_snoc (q := q) (n := n) hrg)
                    clear hot hrg
                    obtain ⟨fl, hfl⟩ : ∃ fl, meets (L.take t) q n = fl := ⟨_, rfl⟩
                    rw [hfl] at HSN ⊢
                    clear hfl
                    cases fl
                    · by_cases h1 : q < rg.a + rg.n
                      · have h1I : (q : Int) < rg.a + rg.n := by omega
                        by_cases h2 : rg.a < q + n
                        · have h2I : (rg.a : Int) < q + n := by omega
                          go_wp2
                          go_roundw
                          case rel => exact ⟨t + 1, by omega, by go_num, by rw [HSN.out]; simp [meetR, h1, h2], HBT.out.alloc HBT.out.size _⟩
                          case measure => simp [intOf]; omega
                        · have h2I : (q : Int) + n ≤ rg.a := by omega
                          go_wp2
                          go_roundw
                          case rel => exact ⟨t + 1, by omega, by go_num, by rw [HSN.out]; first | (simp [meetR, h1, h2]; done) | (simp [meetR, h2]; omega), HBT.out.alloc HBT.out.size _⟩
                          case measure => simp [intOf]; omega
                      · have h1I : (rg.a : Int) + rg.n ≤ q := by omega
                        go_wp2
                        go_roundw
                        case rel => exact ⟨t + 1, by omega, by go_num, by rw [HSN.out]; simp [meetR, h1], HBT.out.alloc HBT.out.size _⟩
                        case measure => simp [intOf]; omega
                    · go_wp2
                      go_roundw
                      case rel => exact ⟨t + 1, by omega, by go_num, by rw [HSN.out]; simp, HBT.out.alloc HBT.out.size _⟩
                      case measure => simp [intOf]; omega
                  · obtain rfl : t = L.length := by omega
                    have hti : decide ((L.length : Int) < L.length) = false := by simp
                    rw [List.take_length]
                    cases hfl : meets L q n
                    · have hqa : q = a := by have h := low_is HG.out (by omega) hfit hfl HALL.out; rw [HLOW.out] at h; exact (Option.some.inj h).symm
                      subst hqa
                      have HFL := Lib.hid hfl
                      clear hfl
                      go_wp2
                      go_roundw
                      case rel => exact ⟨k + 1, _, _, by omega, by go_num, HA4.out.below HBT.out, by omega, HB4.out.trans (HBT.out.mono HB4.out.size)⟩
                      case measure => simp [intOf]; omega
                    · have HFL := Lib.hid hfl
                      clear hfl
                      go_wp2
                      go_roundw
                      case rel => exact ⟨q + 1, by omega, by go_num, fun j hj => (by rcases Nat.lt_or_ge j q with h | h; exact HALL.out j h; obtain rfl : j = q := (by omega); exact HFL.out), HBT.out⟩
                      case measure => simp [intOf]; omega
              · exact absurd (low_not HG.out (by omega) (by omega) HALL.out) (by rw [HLOW.out]; simp)
      · go_wp2
        go_ret
        exact ⟨rfl, hB⟩
  · have h100I : (100 : Int) < N := by omega
    go_enter Try.func6, Try.ntmps6
    go_wp2_with (first
      | (go_at_call 9; refine (alive_any w).mono ?_; rintro r w1 ⟨rfl, hb1⟩)
      | (go_at_call 10; refine (new_law 64 64 w.heap.size _ rfl rfl (by omega) (by omega) (by omega) hb1.size).mono ?_; rintro r w2 ⟨p, rfl, hA2, hb2⟩; have HB2 := Lib.hid (hb1.trans hb2); clear hA2 hb2 hb1))
    go_ret
    exact ⟨rfl, HB2.out⟩
end Go.Proofs.Ytjcnaefgffnphaa
