/- Regions never meet, and never more than the limit: the walk. -/
import Derived.Test.YtjcnaefgffnphaaLimit
import Derived.Test.YtjcnaefgffnphaaActs
import Derived.Test.YtjcnaefgffnphaaApartLaw
namespace Go.Proofs.Ytjcnaefgffnphaa
open Go.RowKit
set_option linter.unusedVariables false

theorem rfs_to {B p : Nat} {s : St} {w : World} {e : Int} {s' : St} (h : Arn B w p s) (bs : List Bool) (A2 : Option Addr) (c2 : Nat) (hr : Reads w w.heap.size 1 A2 bs.length (bs.map Value.bool)) (hl : bs.length ≤ 140737488355328) (he : rfsS s bs = (e, s')) :
    Calls Try.prog 15 #[.pointer (some ⟨p, 0, none⟩), .slice A2 bs.length c2] w fun r w' => r = .returned (.int .i64 e) ∧ Arn B w' p s' ∧ Below B w w' :=
  (rfs_law h bs A2 c2 hr hl).mono fun r w' k => by rw [he] at k; exact k

set_option maxRecDepth 100000 in
set_option maxHeartbeats 4000000 in
theorem apart_walk (a b : Nat) (AA : Option Addr) (N C : Nat) (acts : List ActV) (w : World) (ha : a ≤ 255) (hb : b ≤ 255) (hA : Acts w w.heap.size AA N acts) (hok : ∀ x ∈ acts, ActOk w w.heap.size x) (hre : ∀ x ∈ acts, x.bs.length ≤ 140737488355328) (hN : N ≤ 9223372036854775807) :
    Calls Try.prog 8 #[.int .u8 a, .int .u8 b, .slice AA N C] w fun r w' => r = .returned (.bool true) ∧ Below w.heap.size w w' := by
  have HA := Lib.hid hA
  have HK := Lib.hid hok
  have HRE := Lib.hid hre
  clear hA hok hre
  obtain ⟨n, hn⟩ : ∃ n : Nat, n = a % 64 + 1 := ⟨_, rfl⟩
  obtain ⟨lim, hk⟩ : ∃ lim : Nat, lim = b % (n + 1) := ⟨_, rfl⟩
  have hn1 : 1 ≤ n := by omega
  have hn2 : n ≤ 64 := by omega
  have hkn : lim ≤ n := by rw [hk]; have := Nat.mod_lt b (show 0 < n + 1 by omega); omega
  have hnI : (a : Int) % 64 + 1 = (n : Int) := by omega
  have hkI : (b : Int) % ((n : Int) + 1) = (lim : Int) := by rw [hk]; simp
  have haI : (a : Int) ≤ 255 := by omega
  have hbI : (b : Int) ≤ 255 := by omega
  have hn1I : (1 : Int) ≤ n := by omega
  have hn2I : (n : Int) ≤ 64 := by omega
  have hknI : (lim : Int) ≤ n := by omega
  clear hn hk
  by_cases h100 : N ≤ 100
  · have h100I : (N : Int) ≤ 100 := by omega
    go_enter Try.func8, Try.ntmps8
    go_wp2_with (first
      | (go_at_call 9; refine (alive_any w).mono ?_; rintro r w1 ⟨rfl, hb1⟩)
      | (go_at_call 10; refine (new_law n lim w.heap.size _ rfl rfl hn1 hn2 hkn hb1.size).mono ?_; rintro r w2 ⟨p, rfl, hA2, hb2⟩; have HA2 := Lib.hid hA2; have HB2 := Lib.hid (hb1.trans hb2); clear hA2 hb2 hb1))
    clear hnI hkI
    go_loopw [45] (fun i wr => ∃ (k : Nat) (L : List Reg) (T : List Bool) (rf : Nat), k ≤ N ∧ i = .int .i64 k ∧ Arn w.heap.size wr p ⟨n, lim, L, T, rf⟩ ∧ given L ≤ lim ∧ rf ≤ k ∧ Below w.heap.size w wr) (fun i _ => N - (intOf i).toNat)
    case atStart => exact ⟨0, [], [], 0, by omega, rfl, HA2.out, by simp [given], Nat.le_refl _, HB2.out⟩
    case round =>
      obtain ⟨k, L, T, rf, hk, rfl, hAr, hgl, hrf, hB⟩ := hrel
      by_cases hlt : k < N
      · obtain ⟨b0, o, x, rfl, hab, hx, hat⟩ := HA.out.at hlt
        obtain ⟨h0, h1, h2⟩ := hat.keep hB hab
        have hki : (k : Int) < N := by omega
        obtain ⟨hrd, hbc, hbm, _, _⟩ := HK.out x (List.mem_of_getElem? hx)
        have hreach := HRE.out x (List.mem_of_getElem? hx)
        have HAr := Lib.hid hAr
        have HB := Lib.hid hB
        have HRD := Lib.hid hrd
        clear hx hat hAr hB hrd
        by_cases hkd1 : x.kind = 1
        · have hkb : (x.kind == 1) = true := by simp [hkd1]
          obtain ⟨e, L', T', rf', he, hgl', hrf'⟩ := rel_shape2 n lim L T rf x.n hgl
          have HE := Lib.hid he
          have HKD := Lib.hid hkd1
          clear he hkd1
          go_wp2_with (go_at_call 12; refine (rel_to (HAr.out.below ((Below.refl _ _).alloc (Nat.le_refl _) _)) HE.out).mono ?_; rintro r w4 ⟨rfl, hA4, hb4⟩; have HA4 := Lib.hid hA4; have HB4 := Lib.hid ((HB.out.alloc HB.out.size _).trans hb4); clear hA4 hb4)
          have hgood : Good n L' := HA4.out.ok.good
          have hL64 : L'.length ≤ 64 := by have := length_le_given hgood; have := given_le hgood; omega
          have HG := Lib.hid hgood
          clear hgood
          go_wp2_with (go_at_call 16; refine (regs_law HA4.out).mono ?_; rintro r w5 ⟨u, rfl, ho5, hb5⟩; obtain ⟨A5, c5, rfl, _, _⟩ := ho5.form; have HO5 := Lib.hid ho5; have HB5 := Lib.hid (HB4.out.trans (hb5.mono HB4.out.size)); have HA5 := Lib.hid (HA4.out.below hb5); clear ho5 hb5)
          go_loopw [13, 14, 70] (fun sm en t wt => ∃ tn ee : Nat, tn ≤ L'.length ∧ t = .int .i64 tn ∧ sm = .int .i64 (given (L'.take tn)) ∧ en = .int .i64 ee ∧ ee ≤ 64 ∧ Ahead L' tn ee ∧ Below w5.heap.size w5 wt) (fun _ _ t _ => L'.length - (intOf t).toNat)
          case atStart => exact ⟨0, 0, Nat.zero_le _, rfl, by simp [given], rfl, by omega, fun j r _ _ => Nat.zero_le _, Below.refl _ _⟩
          case round =>
            obtain ⟨t, ee, ht, rfl, rfl, rfl, hee, hah, hbt⟩ := hrel
            have hgt := given_take_le L' t
            have hgtI : (given (L'.take t) : Int) ≤ lim := by omega
            by_cases htl : t < L'.length
            · obtain ⟨rg, hrg⟩ : ∃ rg, L'[t]? = some rg := ⟨L'[t], by simp [htl]⟩
              have hot : OwnR _ _ _ L' := HO5.out.mod (S := fun _ => False) (Mod.of_below hbt (Nat.le_refl _)) (fun _ _ h => h)
              obtain ⟨gr, rfl, _, _, hc0, hc1, _⟩ := hot.at hrg
              have hti : (t : Int) < L'.length := by omega
              obtain ⟨hg1, hg2⟩ := HG.out.2 rg (List.mem_of_getElem? hrg)
              have hg1I : (1 : Int) ≤ rg.n := by omega
              have hg2I : (rg.a : Int) + rg.n ≤ n := by omega
              have hea := hah t rg hrg (Nat.le_refl _)
              have heaI : (ee : Int) ≤ rg.a := by omega
              have HS := Lib.hid (given_snoc hrg)
              have HN := Lib.hid (ahead_next HG.out hrg)
              have HBT := Lib.hid hbt
              clear hot hrg hah hbt
              go_wp2
              go_roundw
              case rel => exact ⟨t + 1, rg.a + rg.n, by omega, by go_num, by rw [HS.out]; go_num, by go_num, by omega, HN.out, HBT.out.alloc HBT.out.size _⟩
              case measure => simp [intOf]; omega
            · obtain rfl : t = L'.length := by omega
              have hti : decide ((L'.length : Int) < L'.length) = false := by simp
              rw [List.take_length] at hgtI ⊢
              have HBT := Lib.hid hbt
              clear hah hbt hgt
              go_wp2_with (go_at_call 13; refine (giv_law (HA5.out.below HBT.out)).mono ?_; rintro r w6 ⟨rfl, m, rfl⟩)
              go_roundw
              case rel => exact ⟨k + 1, L', T', rf', by omega, by go_num, (HA5.out.below HBT.out).below (below_drewN (Below.refl _ _) _), hgl', by omega, below_drewN (HB5.out.trans (HBT.out.mono HB5.out.size)) _⟩
              case measure => simp [intOf]; omega
        · have hkb : (x.kind == 1) = false := by simpa using hkd1
          by_cases hkd2 : x.kind = 2
          · have hkb2 : (x.kind == 2) = true := by simp [hkd2]
            obtain ⟨e, L', T', rf', he, hgl', hrf'⟩ := rfs_shape n lim L T rf x.bs hgl
            have HE := Lib.hid he
            have HKD := Lib.hid hkd1
            have HKD2 := Lib.hid hkd2
            clear he hkd1 hkd2
            go_wp2_with (go_at_call 15; refine (rfs_to (HAr.out.below ((Below.refl _ _).alloc (Nat.le_refl _) _)) x.bs x.A x.c (((HRD.out.below (HB.out.alloc HB.out.size _))).more (by have := HB.out.size; simp; omega)) hreach HE.out).mono ?_; rintro r w4 ⟨rfl, hA4, hb4⟩; have HA4 := Lib.hid hA4; have HB4 := Lib.hid ((HB.out.alloc HB.out.size _).trans hb4); clear hA4 hb4)
            have hgood : Good n L' := HA4.out.ok.good
            have hL64 : L'.length ≤ 64 := by have := length_le_given hgood; have := given_le hgood; omega
            have HG := Lib.hid hgood
            clear hgood
            go_wp2_with (go_at_call 16; refine (regs_law HA4.out).mono ?_; rintro r w5 ⟨u, rfl, ho5, hb5⟩; obtain ⟨A5, c5, rfl, _, _⟩ := ho5.form; have HO5 := Lib.hid ho5; have HB5 := Lib.hid (HB4.out.trans (hb5.mono HB4.out.size)); have HA5 := Lib.hid (HA4.out.below hb5); clear ho5 hb5)
            go_loopw [13, 14, 70] (fun sm en t wt => ∃ tn ee : Nat, tn ≤ L'.length ∧ t = .int .i64 tn ∧ sm = .int .i64 (given (L'.take tn)) ∧ en = .int .i64 ee ∧ ee ≤ 64 ∧ Ahead L' tn ee ∧ Below w5.heap.size w5 wt) (fun _ _ t _ => L'.length - (intOf t).toNat)
            case atStart => exact ⟨0, 0, Nat.zero_le _, rfl, by simp [given], rfl, by omega, fun j r _ _ => Nat.zero_le _, Below.refl _ _⟩
            case round =>
              obtain ⟨t, ee, ht, rfl, rfl, rfl, hee, hah, hbt⟩ := hrel
              have hgt := given_take_le L' t
              have hgtI : (given (L'.take t) : Int) ≤ lim := by omega
              by_cases htl : t < L'.length
              · obtain ⟨rg, hrg⟩ : ∃ rg, L'[t]? = some rg := ⟨L'[t], by simp [htl]⟩
                have hot : OwnR _ _ _ L' := HO5.out.mod (S := fun _ => False) (Mod.of_below hbt (Nat.le_refl _)) (fun _ _ h => h)
                obtain ⟨gr, rfl, _, _, hc0, hc1, _⟩ := hot.at hrg
                have hti : (t : Int) < L'.length := by omega
                obtain ⟨hg1, hg2⟩ := HG.out.2 rg (List.mem_of_getElem? hrg)
                have hg1I : (1 : Int) ≤ rg.n := by omega
                have hg2I : (rg.a : Int) + rg.n ≤ n := by omega
                have hea := hah t rg hrg (Nat.le_refl _)
                have heaI : (ee : Int) ≤ rg.a := by omega
                have HS := Lib.hid (given_snoc hrg)
                have HN := Lib.hid (ahead_next HG.out hrg)
                have HBT := Lib.hid hbt
                clear hot hrg hah hbt
                go_wp2
                go_roundw
                case rel => exact ⟨t + 1, rg.a + rg.n, by omega, by go_num, by rw [HS.out]; go_num, by go_num, by omega, HN.out, HBT.out.alloc HBT.out.size _⟩
                case measure => simp [intOf]; omega
              · obtain rfl : t = L'.length := by omega
                have hti : decide ((L'.length : Int) < L'.length) = false := by simp
                rw [List.take_length] at hgtI ⊢
                have HBT := Lib.hid hbt
                clear hah hbt hgt
                go_wp2_with (go_at_call 13; refine (giv_law (HA5.out.below HBT.out)).mono ?_; rintro r w6 ⟨rfl, m, rfl⟩)
                go_roundw
                case rel => exact ⟨k + 1, L', T', rf', by omega, by go_num, (HA5.out.below HBT.out).below (below_drewN (Below.refl _ _) _), hgl', by omega, below_drewN (HB5.out.trans (HBT.out.mono HB5.out.size)) _⟩
                case measure => simp [intOf]; omega
          · have hkb2 : (x.kind == 2) = false := by simpa using hkd2
            obtain ⟨a', e, L', T', rf', he, hgl', hrf'⟩ := res_shape n lim L T rf x.n hgl
            have HE := Lib.hid he
            have HKD := Lib.hid hkd1
            have HKD2 := Lib.hid hkd2
            clear he hkd1 hkd2
            go_wp2_with (go_at_call 11; refine (res_to (HAr.out.below ((Below.refl _ _).alloc (Nat.le_refl _) _)) (by show rf + 1 ≤ 1000000; omega) HE.out).mono ?_; rintro r w4 ⟨rfl, hA4, hb4⟩; have HA4 := Lib.hid hA4; have HB4 := Lib.hid ((HB.out.alloc HB.out.size _).trans hb4); clear hA4 hb4)
            have hgood : Good n L' := HA4.out.ok.good
            have hL64 : L'.length ≤ 64 := by have := length_le_given hgood; have := given_le hgood; omega
            have HG := Lib.hid hgood
            clear hgood
            go_wp2_with (go_at_call 16; refine (regs_law HA4.out).mono ?_; rintro r w5 ⟨u, rfl, ho5, hb5⟩; obtain ⟨A5, c5, rfl, _, _⟩ := ho5.form; have HO5 := Lib.hid ho5; have HB5 := Lib.hid (HB4.out.trans (hb5.mono HB4.out.size)); have HA5 := Lib.hid (HA4.out.below hb5); clear ho5 hb5)
            go_loopw [13, 14, 70] (fun sm en t wt => ∃ tn ee : Nat, tn ≤ L'.length ∧ t = .int .i64 tn ∧ sm = .int .i64 (given (L'.take tn)) ∧ en = .int .i64 ee ∧ ee ≤ 64 ∧ Ahead L' tn ee ∧ Below w5.heap.size w5 wt) (fun _ _ t _ => L'.length - (intOf t).toNat)
            case atStart => exact ⟨0, 0, Nat.zero_le _, rfl, by simp [given], rfl, by omega, fun j r _ _ => Nat.zero_le _, Below.refl _ _⟩
            case round =>
              obtain ⟨t, ee, ht, rfl, rfl, rfl, hee, hah, hbt⟩ := hrel
              have hgt := given_take_le L' t
              have hgtI : (given (L'.take t) : Int) ≤ lim := by omega
              by_cases htl : t < L'.length
              · obtain ⟨rg, hrg⟩ : ∃ rg, L'[t]? = some rg := ⟨L'[t], by simp [htl]⟩
                have hot : OwnR _ _ _ L' := HO5.out.mod (S := fun _ => False) (Mod.of_below hbt (Nat.le_refl _)) (fun _ _ h => h)
                obtain ⟨gr, rfl, _, _, hc0, hc1, _⟩ := hot.at hrg
                have hti : (t : Int) < L'.length := by omega
                obtain ⟨hg1, hg2⟩ := HG.out.2 rg (List.mem_of_getElem? hrg)
                have hg1I : (1 : Int) ≤ rg.n := by omega
                have hg2I : (rg.a : Int) + rg.n ≤ n := by omega
                have hea := hah t rg hrg (Nat.le_refl _)
                have heaI : (ee : Int) ≤ rg.a := by omega
                have HS := Lib.hid (given_snoc hrg)
                have HN := Lib.hid (ahead_next HG.out hrg)
                have HBT := Lib.hid hbt
                clear hot hrg hah hbt
                go_wp2
                go_roundw
                case rel => exact ⟨t + 1, rg.a + rg.n, by omega, by go_num, by rw [HS.out]; go_num, by go_num, by omega, HN.out, HBT.out.alloc HBT.out.size _⟩
                case measure => simp [intOf]; omega
              · obtain rfl : t = L'.length := by omega
                have hti : decide ((L'.length : Int) < L'.length) = false := by simp
                rw [List.take_length] at hgtI ⊢
                have HBT := Lib.hid hbt
                clear hah hbt hgt
                go_wp2_with (go_at_call 13; refine (giv_law (HA5.out.below HBT.out)).mono ?_; rintro r w6 ⟨rfl, m, rfl⟩)
                go_roundw
                case rel => exact ⟨k + 1, L', T', rf', by omega, by go_num, (HA5.out.below HBT.out).below (below_drewN (Below.refl _ _) _), hgl', by omega, below_drewN (HB5.out.trans (HBT.out.mono HB5.out.size)) _⟩
                case measure => simp [intOf]; omega
      · go_wp2
        go_ret
        exact ⟨rfl, hB⟩
  · have h100I : (100 : Int) < N := by omega
    go_enter Try.func8, Try.ntmps8
    go_wp2_with (first
      | (go_at_call 9; refine (alive_any w).mono ?_; rintro r w1 ⟨rfl, hb1⟩)
      | (go_at_call 10; refine (new_law n lim w.heap.size _ rfl rfl hn1 hn2 hkn hb1.size).mono ?_; rintro r w2 ⟨p, rfl, hA2, hb2⟩; have HB2 := Lib.hid (hb1.trans hb2); clear hA2 hb2 hb1))
    go_ret
    exact ⟨rfl, HB2.out⟩
end Go.Proofs.Ytjcnaefgffnphaa
