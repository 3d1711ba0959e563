/- What was given, and is taken back, is given again: the walk. -/
import Derived.Test.YtjcnaefgffnphaaKeep
import Derived.Lib.QuietBelow
namespace Go.Proofs.Ytjcnaefgffnphaa
open Go.RowKit
set_option linter.unusedVariables false

/-- A post that speaks of the plain way out alone. -/
def AtEnd (R : Act → World → Prop) : Exit → Act → World → Prop
  | .normal, a, w => R a w
  | _, _, _ => False
theorem AtEnd.imp {R : Act → World → Prop} {Q : Exit → Act → World → Prop} (h : ∀ a w, R a w → Q .normal a w) : ∀ e a w, AtEnd R e a w → Q e a w := fun e a w hr => by
  cases e <;> first | exact h a w hr | exact hr.elim

theorem res_some (L : List Reg) (rf : Nat) (n : Int) : ∃ a e L' rf', resS ⟨64, 64, L, [], rf⟩ n = (a, e, ⟨64, 64, L', [], rf'⟩) ∧ rf' ≤ rf + 1 := by
  unfold resS
  split
  · exact ⟨_, _, _, _, rfl, Nat.le_succ _⟩
  · split
    · split
      · exact ⟨_, _, _, _, rfl, Nat.le_succ _⟩
      · exact ⟨_, _, _, _, rfl, Nat.le_refl _⟩
    · exact ⟨_, _, _, _, rfl, Nat.le_refl _⟩

/-- The arena, a copy of its regions, and one of these in a box, in a later world. -/
structure Bk (E : Nat → Prop) (wX w1 : World) (p z : Nat) (u : Value) (x : Reg) (L : List Reg) (s : St) : Prop where
  ar : ArE E w1 p s
  md : Mod (fun k => ¬ E k) wX w1
  ez : E z
  zx : wX.heap[z]? = some (.cells #[.int .i64 (x.a : Int), .int .i64 (x.n : Int)] 39 (0, 0))
  eb : ∀ k, E k → k < wX.heap.size
  own : OwnR wX 0 u L
  eu : ∀ k, u.ownBlock = some k → E k
section
variable {E : Nat → Prop} {wX w1 w2 : World} {p z : Nat} {u : Value} {x : Reg} {L : List Reg} {s s' : St}
theorem Bk.box (h : Bk E wX w1 p z u x L s) : w1.heap[z]? = some (.cells #[.int .i64 (x.a : Int), .int .i64 (x.n : Int)] 39 (0, 0)) := (h.md.block z (h.eb z h.ez) (fun hn => hn h.ez)).trans h.zx
theorem Bk.c0 (h : Bk E wX w1 p z u x L s) : w1.cell? ⟨z, 0, none⟩ = some (.int .i64 (x.a : Int)) := by simp [World.cell?, h.box]
theorem Bk.c1 (h : Bk E wX w1 p z u x L s) : w1.cell? ⟨z, 1, none⟩ = some (.int .i64 (x.n : Int)) := by simp [World.cell?, h.box]
theorem Bk.eb1 (h : Bk E wX w1 p z u x L s) : ∀ k, E k → k < w1.heap.size := fun k hk => Nat.lt_of_lt_of_le (h.eb k hk) h.md.size
theorem Bk.own1 (h : Bk E wX w1 p z u x L s) : OwnR w1 0 u L := h.own.mod h.md (fun k hk hn => hn (h.eu k hk))
theorem Bk.below (h : Bk E wX w1 p z u x L s) (hb : Below w1.heap.size w1 w2) : Bk E wX w2 p z u x L s :=
  ⟨h.ar.below hb, h.md.trans (Mod.of_below (S := fun k => ¬ E k) hb (Nat.le_refl _)) (fun _ _ h => h), h.ez, h.zx, h.eb, h.own, h.eu⟩
theorem Bk.drewN (h : Bk E wX w1 p z u x L s) (n : Nat) : Bk E wX (w1.drewN n) p z u x L s := h.below (below_drewN (Below.refl _ _) n)
theorem Bk.next (h : Bk E wX w1 p z u x L s) (ha : ArE E w2 p s') (hm : Mod (fun k => ¬ E k) w1 w2) : Bk E wX w2 p z u x L s' := ⟨ha, h.md.trans hm (fun _ _ h => h), h.ez, h.zx, h.eb, h.own, h.eu⟩
theorem bk_rel {t e : Int} (h : Bk E wX w1 p z u x L s) (he : relS s t = (e, s')) :
    Calls Try.prog 12 #[.pointer (some ⟨p, 0, none⟩), .int .i64 t] w1 fun r w' => r = .returned (.int .i64 e) ∧ Bk E wX w' p z u x L s' :=
  (rel_e h.ar h.eb1 he).mono fun r w' ⟨a, b, c⟩ => ⟨a, h.next b c⟩
theorem bk_res {n a e : Int} (h : Bk E wX w1 p z u x L s) (hf : s.refused + 1 ≤ 1000000) (he : resS s n = (a, e, s')) :
    Calls Try.prog 11 #[.pointer (some ⟨p, 0, none⟩), .int .i64 n] w1 fun r w' => r = .returned (.tuple #[.int .i64 a, .int .i64 e]) ∧ Bk E wX w' p z u x L s' :=
  (res_e h.ar h.eb1 hf he).mono fun r w' ⟨a, b, c⟩ => ⟨a, h.next b c⟩
theorem bk_giv (h : Bk E wX w1 p z u x L s) : Calls Try.prog 13 #[.pointer (some ⟨p, 0, none⟩)] w1 fun r w' => r = .returned (.int .i64 (given s.L)) ∧ Bk E wX w' p z u x L s :=
  (giv_e h.ar).mono fun r w' ⟨a, n, b⟩ => ⟨a, b ▸ h.drewN n⟩
theorem bk_regs (h : Bk E wX w1 p z u x L s) : Calls Try.prog 16 #[.pointer (some ⟨p, 0, none⟩)] w1 fun r w' => ∃ A c, r = .returned (.slice A s.L.length c) ∧ Bk E wX w' p z u x L s :=
  (regs_e h.ar).mono fun r w' ⟨A, c, a, b⟩ => ⟨A, c, a, h.below b⟩
theorem bk_sum {A : Option Addr} {c : Nat} (h : Bk E wX w1 p z (.slice A L.length c) x L s) (hl : L.length ≤ 64) (hb : ∀ r ∈ L, r.n ≤ 64) : Calls Try.prog 17 #[.slice A L.length c] w1 fun r w' => r = .returned (.int .i64 (given L)) ∧ Bk E wX w' p z (.slice A L.length c) x L s :=
  (sum_any 0 c A L w1 hl hb h.own1).mono fun r w' ⟨a, b⟩ => ⟨a, h.below b⟩
theorem Bk.belowB {B : Nat} (h : Bk E wX w1 p z u x L s) (hB : ∀ k, k < B → E k) : Below B wX w1 :=
  ⟨h.md.os, h.md.tape, h.md.output, h.md.size, fun k hk => h.md.block k (h.eb k (hB k hk)) (fun hn => hn (hB k hk))⟩
end

theorem bk_new {B p : Nat} {wr w5 : World} {A : Option Addr} {c rf : Nat} {L : List Reg} (h : Arn B wr p ⟨64, 64, L, [], rf⟩) (hB : B ≤ wr.heap.size) (hb : Below wr.heap.size wr w5) (ho : OwnR w5 wr.heap.size (.slice A L.length c) L) (x : Reg) :
    Bk (fun k => k < B ∨ (wr.heap.size ≤ k ∧ k < (w5.alloc (.cells #[.int .i64 (x.a : Int), .int .i64 (x.n : Int)] 39)).heap.size)) (w5.alloc (.cells #[.int .i64 (x.a : Int), .int .i64 (x.n : Int)] 39)) (w5.alloc (.cells #[.int .i64 (x.a : Int), .int .i64 (x.n : Int)] 39)) p w5.heap.size (.slice A L.length c) x L ⟨64, 64, L, [], rf⟩ := by
  have hs := hb.size
  refine ⟨ArE.of_arn h (hb.alloc hs _), Mod.refl _ _, .inr ⟨hs, by simp⟩, heap_alloc_new w5 _, fun k hk => by simp at hk ⊢; omega, ?_, fun k hk => ?_⟩
  · have h1 : OwnR (w5.alloc (.cells #[.int .i64 (x.a : Int), .int .i64 (x.n : Int)] 39)) wr.heap.size (.slice A L.length c) L := ho.mod (S := fun _ => False) ((Mod.refl _ w5).alloc _) (fun _ _ h => h)
    refine ⟨h1.1, ?_⟩
    rcases h1.2 with h2 | ⟨g, cap, cur, h2, _, h3⟩
    · exact .inl h2
    · exact .inr ⟨g, cap, cur, h2, Nat.zero_le _, h3⟩
  · have := ho.lt k hk
    exact .inr ⟨this.1, by simp; omega⟩

/-- Bytes that are handed in. -/
def Bytes (w : World) (A : Option Addr) (n : Nat) (zs : List Nat) : Prop := zs.length = n ∧ (∀ z ∈ zs, z ≤ 255) ∧ (0 < n → ∃ ad, A = some ad ∧ ad.block < w.heap.size ∧ ∀ (k z : Nat), zs[k]? = some z → w.cell? (ad.add k) = some (.int .u8 (z : Int)))

set_option maxRecDepth 100000 in
set_option maxHeartbeats 4000000 in
theorem back_walk (A : Option Addr) (N C wh : Nat) (zs : List Nat) (w : World) (hZ : Bytes w A N zs) (hN : N ≤ 9223372036854775807) (hwh : wh ≤ 255) :
    Calls Try.prog 5 #[.slice A N C, .int .u8 wh] w fun r w' => r = .returned (.bool true) ∧ Below w.heap.size w w' := by
  have HZ := Lib.hid hZ
  clear hZ
  have hwhI : (wh : Int) ≤ 255 := by omega
  by_cases h64 : N ≤ 64
  · have h64I : (N : Int) ≤ 64 := by omega
    go_enter Try.func5, Try.ntmps5
    go_wp2_with (first
      | (go_at_call 9; refine (alive_any w).mono ?_; rintro r w1 ⟨rfl, hb1⟩)
      | (go_at_call 10; refine (new_law 64 64 w.heap.size _ rfl rfl (by omega) (by omega) (by omega) hb1.size).mono ?_; rintro r w2 ⟨p, rfl, hA2, hb2⟩; have HA2 := Lib.hid hA2; have HB2 := Lib.hid (hb1.trans hb2); clear hA2 hb2 hb1))
    go_loopw [30] (fun i wr => ∃ (k : Nat) (L : List Reg) (rf : Nat), k ≤ N ∧ i = .int .i64 k ∧ Arn w.heap.size wr p ⟨64, 64, L, [], rf⟩ ∧ rf ≤ k ∧ Below w.heap.size w wr) (fun i _ => N - (intOf i).toNat)
    case atStart => exact ⟨0, [], 0, by omega, rfl, HA2.out, Nat.le_refl _, HB2.out⟩
    case round =>
      obtain ⟨k, L, rf, hk, rfl, hAr, hrf, hB⟩ := hrel
      have HAr := Lib.hid hAr
      have HB := Lib.hid hB
      clear hAr hB
      by_cases hlt : k < N
      · obtain ⟨hz1, hz2, hz3⟩ := HZ.out
        obtain ⟨ad, rfl, hab, hzc⟩ := hz3 (by omega)
        obtain ⟨z, hz⟩ : ∃ z, zs[k]? = some z := ⟨zs[k], by simp [hz1, hlt]⟩
        have hc := (HB.out.cell (p := ad.add k) (by rw [block_of_add]; exact hab)).trans (hzc k z hz)
        have hki : (k : Int) < N := by omega
        have hz255 := hz2 z (List.mem_of_getElem? hz)
        have hzI : (z : Int) ≤ 255 := by omega
        obtain ⟨a, e, L', rf', he, hrf'⟩ := res_some L rf ((z : Int) % 5 + 1)
        have HE := Lib.hid he
        clear he hz hzc hz1 hz2 hz3
        go_wp2_with (go_at_call 11; refine (res_to HAr.out (by show rf + 1 ≤ 1000000; omega) HE.out).mono ?_; rintro r w4 ⟨rfl, hA4, hb4⟩; have HA4 := Lib.hid hA4; have HB4 := Lib.hid (HB.out.trans hb4); clear hA4 hb4)
        go_roundw
        case rel => exact ⟨k + 1, L', rf', by omega, by go_num, HA4.out, by omega, HB4.out⟩
        case measure => simp [intOf]; omega
      · have hki : (N : Int) ≤ k := by omega
        have hgood : Good 64 L := HAr.out.ok.good
        have hL64 : L.length ≤ 64 := by have := length_le_given hgood; have := given_le hgood; omega
        have HG := Lib.hid hgood
        clear hgood
        by_cases hL0 : L.length = 0
        · have hL0b : ((L.length : Int) == 0) = true := beq_iff_eq.2 (by omega)
          have HL0 := Lib.hid hL0
          clear hL0
          go_wp2_with (go_at_call 16; refine (regs_law HAr.out).mono ?_; rintro r w5 ⟨u, rfl, ho5, hb5⟩; obtain ⟨A5, c5, rfl, _, _⟩ := ho5.form; have HB5 := Lib.hid (HB.out.trans (hb5.mono HB.out.size)); clear ho5 hb5)
          go_ret
          exact ⟨rfl, HB5.out⟩
        · have hL0b : ((L.length : Int) == 0) = false := beq_eq_false_iff_ne.2 (by omega)
          obtain ⟨j, hj⟩ : ∃ j : Nat, j = wh % L.length := ⟨_, rfl⟩
          have hjl : j < L.length := by rw [hj]; exact Nat.mod_lt _ (by omega)
          have hjI : (wh : Int) % (L.length : Int) = (j : Int) := by rw [hj]; simp
          have hjlI : (j : Int) < L.length := by omega
          have hl1 : (1 : Int) ≤ L.length := by omega
          obtain ⟨x, hx⟩ : ∃ x, L[j]? = some x := ⟨L[j], by simp [hjl]⟩
          have hxg := HG.out.2 x (List.mem_of_getElem? hx)
          have hxI : (x.a : Int) + x.n ≤ 64 := by omega
          have HX := Lib.hid hx
          clear hx hj hL0
          by_cases hxn : 1 < x.n
          · have hxnI : (1 : Int) < x.n := by omega
            go_wp2_with (go_at_call 16; refine (regs_law HAr.out).mono ?_; rintro r w5 ⟨u, rfl, ho5, hb5⟩; obtain ⟨A5, c5, rfl, _, _⟩ := ho5.form; obtain ⟨g5, rfl, _, _, hu0, hu1, _⟩ := ho5.at HX.out; have HO5 := Lib.hid ho5; have HB5 := Lib.hid hb5; clear ho5 hb5)
            obtain ⟨E, hbk, heb⟩ : ∃ E : Nat → Prop, Bk E _ _ p w5.heap.size (.slice (some ⟨g5, 0, none⟩) L.length c5) x L ⟨64, 64, L, [], rf⟩ ∧ ∀ k, k < w.heap.size → E k := ⟨_, bk_new HAr.out HB.out.size HB5.out HO5.out x, fun k hk => .inl hk⟩
            have HEB := Lib.hid heb
            clear heb
            have HBK := Lib.hid hbk
            have HEQ := Lib.hid hjI
            have hq0 := hbk.c0
            have hq1 := hbk.c1
            clear hbk hjI hu0 hu1
            obtain ⟨wX, hwX⟩ : ∃ wX, wX = w5.alloc (.cells #[.int .i64 (x.a : Int), .int .i64 (x.n : Int)] 39) := ⟨_, rfl⟩
            rw [← hwX] at HBK hq0 hq1 ⊢
            have HBW := Lib.hid (show Below w.heap.size w wX by rw [hwX]; exact (HB.out.trans (HB5.out.mono HB.out.size)).alloc (Nat.le_trans HB.out.size HB5.out.size) _)
            clear hwX
            go_wp2_with fail
            refine (bk_rel HBK.out (back_in HG.out HX.out hxn)).mono ?_
            rintro r w6 ⟨rfl, hk6⟩
            have hr0 := hk6.c0
            have hr1 := hk6.c1
            have HK6 := Lib.hid hk6
            clear hk6 hq0 hq1
            go_wp2_with fail
            refine (bk_rel HK6.out (back_64 HG.out)).mono ?_
            rintro r w7 ⟨rfl, hk7⟩
            have hs0 := hk7.c0
            have hs1 := hk7.c1
            have HK7 := Lib.hid hk7
            clear hk7
            go_wp2_with fail
            refine (bk_rel HK7.out (back_yes HG.out HX.out)).mono ?_
            rintro r w8 ⟨rfl, hk8⟩
            have ht0 := hk8.c0
            have ht1 := hk8.c1
            have HK8 := Lib.hid hk8
            clear hk8
            go_wp2_with fail
            refine (bk_rel HK8.out (back_no HG.out HX.out)).mono ?_
            rintro r w9 ⟨rfl, hk9⟩
            have hv0 := hk9.c0
            have hv1 := hk9.c1
            have HK9 := Lib.hid hk9
            clear hk9
            go_wp2_with fail
            obtain ⟨q, hag, hqx, hm1, hm2⟩ := back_again (rf := rf) HG.out HX.out
            have hqxI : (q : Int) ≤ x.a := by omega
            have hge := given_eraseIdx HX.out
            have hle : (L.eraseIdx j).length + 1 = L.length := by rw [List.length_eraseIdx_of_lt hjl]; omega
            have hgL := given_le HG.out
            have hgb : ((given (L.eraseIdx j) : Int) != (given L : Int) - x.n) = false := by simp; omega
            have hgb2 : (((L.eraseIdx j).length : Int) != (L.length : Int) - 1) = false := by simp; omega
            have hgLI : (given L : Int) ≤ 64 := by omega
            have hgx : (x.n : Int) ≤ given L := by omega
            have HAG := Lib.hid hag
            have HM1 := Lib.hid hm1
            have HM2 := Lib.hid hm2
            have HR64 : Hid (∀ r ∈ L, r.a + r.n ≤ 64) := Lib.hid (fun r hr => (HG.out.2 r hr).2)
            have HN64 : Hid (∀ r ∈ L, r.n ≤ 64) := Lib.hid (fun r hr => by have := (HG.out.2 r hr).2; omega)
            have HW0 := Lib.hid (HK9.out.below ((Below.refl _ _).drew))
            clear hag hm1 hm2 hge hle
            refine Code.wp_mono (AtEnd.imp (R := fun a' W' => ∃ (A' : Option Addr) (c' : Nat), a' = { tmps := #[.slice A N C, .int .u8 wh, undef, undef, .bool false, .pointer (some ⟨p, 0, none⟩), .int .i64 0, undef, u8, .slice (some ⟨g5, 0, none⟩) L.length c5, .pointer (some ⟨w5.heap.size, 0, none⟩), undef, undef, .bool true, .bool false, .tuple #[.pointer (some ⟨p, 0, none⟩), .int .i64 0], .tuple #[.pointer (some ⟨p, 0, none⟩), .int .i64 0], .pointer (some ⟨p, 0, none⟩), .int .i64 0, .int .i64 0, .bool false, .bool false, .slice A N C, .int .i64 N, .bool (decide ((64 : Int) < N)), .bool (decide ((64 : Int) < N)), undef, undef, .slice A N C, .int .i64 N, .int .i64 k, .bool false, u32, u33, u34, u35, u36, u37, u38, u39, u40, .pointer (some ⟨p, 0, none⟩), .slice (some ⟨g5, 0, none⟩) L.length c5, .slice (some ⟨g5, 0, none⟩) L.length c5, .int .i64 L.length, .bool false, .slice (some ⟨g5, 0, none⟩) L.length c5, .int .u8 wh, .int .i64 wh, .slice (some ⟨g5, 0, none⟩) L.length c5, .int .i64 L.length, .int .i64 ((wh : Int) % (L.length : Int)), .pointer (some ⟨g5, j * 2, none⟩), .agg #[.int .i64 (x.a : Int), .int .i64 (x.n : Int)], .pointer (some ⟨w5.heap.size, 1, none⟩), .int .i64 (x.n : Int), .bool true, .bool true, .pointer (some ⟨p, 0, none⟩), .pointer (some ⟨w5.heap.size, 0, none⟩), .int .i64 (x.a : Int), .int .i64 ((x.a : Int) + 1), .int .i64 5, .bool false, .bool false, .bool false, .pointer (some ⟨p, 0, none⟩), .int .i64 5, .bool false, .bool false, .bool false, .pointer (some ⟨p, 0, none⟩), .pointer (some ⟨w5.heap.size, 0, none⟩), .int .i64 (x.a : Int), .int .i64 0, .bool false, .bool false, .bool false, .pointer (some ⟨p, 0, none⟩), .pointer (some ⟨w5.heap.size, 0, none⟩), .int .i64 (x.a : Int), .int .i64 5, .bool false, .bool false, .pointer (some ⟨p, 0, none⟩), .int .i64 (given (L.eraseIdx j) : Int), .slice (some ⟨g5, 0, none⟩) L.length c5, .int .i64 (given L : Int), .pointer (some ⟨w5.heap.size, 1, none⟩), .int .i64 (x.n : Int), .int .i64 ((given L : Int) - x.n), .bool false, .bool false, .pointer (some ⟨p, 0, none⟩), .slice A' (L.eraseIdx j).length c', .int .i64 ((L.eraseIdx j).length : Int), .slice (some ⟨g5, 0, none⟩) L.length c5, .int .i64 L.length, .int .i64 ((L.length : Int) - 1), .bool false, .bool false, undef, undef, undef, undef, undef, undef, undef, undef, undef, undef, undef, undef, undef, undef, undef, undef, undef, undef, undef, undef, undef, undef, undef, undef, undef, undef, undef, undef], defers := [] } ∧ Bk E wX W' p w5.heap.size (.slice (some ⟨g5, 0, none⟩) L.length c5) x L ⟨64, 64, L.eraseIdx j, [], rf⟩) ?_) ?_
            · rintro a' W' ⟨A', c', rfl, hkz⟩
              have HWZ := Lib.hid hkz
              clear hkz
              dsimp only [Exit.then]
              have hy1 := HWZ.out.c1
              go_wp2_with fail
              refine (bk_res HWZ.out (by show rf + 1 ≤ 1000000; omega) HAG.out).mono ?_
              rintro r V ⟨rfl, hv⟩
              have hz0 := hv.c0
              have hz1 := hv.c1
              have HV := Lib.hid hv
              have HCR := Lib.hid (fun (d : Nat) (os : Array Obj) (o : Nat) => (below_regrown V d os).cell (p := ⟨w5.heap.size, o, none⟩) (hv.eb1 _ hv.ez))
              have H18 := Lib.hid (fun (d : Nat) (os : Array Obj) => lowest_any 0 c5 q (some ⟨g5, 0, none⟩) L x (Go.Sort.grow (redrawn V d) os) hL64 HR64.out (by omega) (hv.own1.mod (S := fun _ => False) (Mod.of_below (below_regrown V d os) (Nat.le_refl _)) (fun _ _ h => h)) (by omega) HM1.out HM2.out)
              clear hv
              go_wp2
              have hcr := HCR.out
              refine wp_region_quiet_below (by kernel_rfl) (by kernel_rfl) ?_
              repeat (go_big_quiet_step ((go_at_call 18; exact Calls.regrown_of (H18.out _ _))))
              refine wpQuiet_nil ?_
              intro W2 hw2
              have hb2 : Below V.heap.size V W2 := by obtain ⟨⟨dq, osq⟩, rfl⟩ := hw2; exact below_regrown _ _ _
              clear hw2 hcr
              go_wp2
              go_ret
              exact ⟨ret_bool (by simp), (HBW.out.trans ((HV.out.belowB (B := w.heap.size) HEB.out).trans (hb2.mono (by have := HV.out.md.size; have := HBW.out.size; omega))))⟩
            · refine wp_region_any (by kernel_rfl) ?_
              change wpAny _ _ _ _ _ _ _ (World.drew _)
              refine any_take (i := 0) (v := .pointer (some ⟨p, 0, none⟩)) (some 84) rfl rfl (by kernel_rfl) (by kernel_rfl) (by kernel_rfl) (fun _ _ _ h => h) (Or.inl ⟨by rfl, fun w => by go_simp⟩) ?_
              simp only [Act.put, List.setIfInBounds_toArray, List.set_cons_succ, List.set_cons_zero]
              refine any_take (i := 2) (v := .slice (some ⟨g5, 0, none⟩) L.length c5) (some 86) rfl rfl (by kernel_rfl) (by kernel_rfl) (by kernel_rfl) (fun _ _ _ h => h) (Or.inl ⟨by rfl, fun w => by go_simp⟩) ?_
              simp only [Act.put, List.setIfInBounds_toArray, List.set_cons_succ, List.set_cons_zero]
              refine any_take (i := 4) (v := .pointer (some ⟨w5.heap.size, 1, none⟩)) (some 88) rfl rfl (by kernel_rfl) (by kernel_rfl) (by kernel_rfl) (fun _ _ _ h => h) (Or.inl ⟨by rfl, fun w => by go_simp⟩) ?_
              simp only [Act.put, List.setIfInBounds_toArray, List.set_cons_succ, List.set_cons_zero]
              have hl1 := HW0.out.c1
              refine wpAny_ready (rs := [1, 5]) (by kernel_rfl) (by simp) (AllReady.cons rfl (fun K hK => ?_) (AllReady.cons rfl (fun K hK => ?_) AllReady.nil))
              · go_simp
                go_wp2_with (go_at_call 13; refine (bk_giv HW0.out).mono ?_; rintro r W1 ⟨rfl, hk1⟩; have HW1 := Lib.hid hk1; clear hk1 hl1)
                have hl2 := HW1.out.c1
                refine wpAny_ready (rs := [3, 5]) (by kernel_rfl) (by simp) (AllReady.cons rfl (fun K hK => ?_) (AllReady.cons rfl (fun K hK => ?_) AllReady.nil))
                · go_simp
                  go_wp2_with (go_at_call 17; refine (bk_sum HW1.out hL64 HN64.out).mono ?_; rintro r W2 ⟨rfl, hk2⟩; have HW2 := Lib.hid hk2; clear hk2 hl2)
                  have hl3 := HW2.out.c1
                  refine wpAny_ready (rs := [5]) (by kernel_rfl) (by simp) (AllReady.cons rfl (fun K hK => ?_) AllReady.nil)
                  go_simp
                  refine hK _ _ ?_
                  clear hK K
                  refine any_take (i := 6) (v := .int .i64 ((given L : Int) - x.n)) (some 90) rfl rfl (by kernel_rfl) (by kernel_rfl) (by kernel_rfl) (fun _ _ _ h => h) (Or.inl ⟨by rfl, fun w => by go_simp; exact IntWalk.i64_in _ (by omega)⟩) ?_
                  simp only [Act.put, List.setIfInBounds_toArray, List.set_cons_succ, List.set_cons_zero]
                  refine any_take (i := 7) (v := .bool false) (some 91) rfl rfl (by kernel_rfl) (by kernel_rfl) (by kernel_rfl) (fun _ _ _ h => h) (Or.inl ⟨by rfl, fun w => by go_simp⟩) ?_
                  simp only [Act.put, List.setIfInBounds_toArray, List.set_cons_succ, List.set_cons_zero]
                  refine any_take (i := 8) (v := .bool false) (some 92) rfl rfl (by kernel_rfl) (by kernel_rfl) (by kernel_rfl) (fun _ _ _ h => h) (Or.inl ⟨by rfl, fun w => by go_simp⟩) ?_
                  simp only [Act.put, List.setIfInBounds_toArray, List.set_cons_succ, List.set_cons_zero]
                  refine any_take (i := 9) (v := .pointer (some ⟨p, 0, none⟩)) (some 93) rfl rfl (by kernel_rfl) (by kernel_rfl) (by kernel_rfl) (fun _ _ _ h => h) (Or.inl ⟨by rfl, fun w => by go_simp⟩) ?_
                  simp only [Act.put, List.setIfInBounds_toArray, List.set_cons_succ, List.set_cons_zero]
                  refine any_take (i := 12) (v := .slice (some ⟨g5, 0, none⟩) L.length c5) (some 96) rfl rfl (by kernel_rfl) (by kernel_rfl) (by kernel_rfl) (fun _ _ _ h => h) (Or.inl ⟨by rfl, fun w => by go_simp⟩) ?_
                  simp only [Act.put, List.setIfInBounds_toArray, List.set_cons_succ, List.set_cons_zero]
                  refine any_take (i := 13) (v := .int .i64 L.length) (some 97) rfl rfl (by kernel_rfl) (by kernel_rfl) (by kernel_rfl) (fun _ _ _ h => h) (Or.inl ⟨by rfl, fun w => by go_simp⟩) ?_
                  simp only [Act.put, List.setIfInBounds_toArray, List.set_cons_succ, List.set_cons_zero]
                  refine any_take (i := 14) (v := .int .i64 ((L.length : Int) - 1)) (some 98) rfl rfl (by kernel_rfl) (by kernel_rfl) (by kernel_rfl) (fun _ _ _ h => h) (Or.inl ⟨by rfl, fun w => by go_simp; exact IntWalk.i64_in _ (by omega)⟩) ?_
                  simp only [Act.put, List.setIfInBounds_toArray, List.set_cons_succ, List.set_cons_zero]
                  refine wpAny_ready (rs := [10]) (by kernel_rfl) (by simp) (AllReady.cons rfl (fun K hK => ?_) AllReady.nil)
                  go_simp
                  go_wp2_with (go_at_call 16; refine (bk_regs HW2.out).mono ?_; rintro r W4 ⟨A4, c4, rfl, hk4⟩; have HW4 := Lib.hid hk4; clear hk4)
                  refine any_take (i := 11) (v := .int .i64 ((L.eraseIdx j).length : Int)) (some 95) rfl rfl (by kernel_rfl) (by kernel_rfl) (by kernel_rfl) (fun _ _ _ h => h) (Or.inl ⟨by rfl, fun w => by go_simp⟩) ?_
                  simp only [Act.put, List.setIfInBounds_toArray, List.set_cons_succ, List.set_cons_zero]
                  refine any_take (i := 15) (v := .bool false) (some 99) rfl rfl (by kernel_rfl) (by kernel_rfl) (by kernel_rfl) (fun _ _ _ h => h) (Or.inl ⟨by rfl, fun w => by go_simp⟩) ?_
                  simp only [Act.put, List.setIfInBounds_toArray, List.set_cons_succ, List.set_cons_zero]
                  refine any_take (i := 16) (v := .bool false) (some 100) rfl rfl (by kernel_rfl) (by kernel_rfl) (by kernel_rfl) (fun _ _ _ h => h) (Or.inl ⟨by rfl, fun w => by go_simp⟩) ?_
                  simp only [Act.put, List.setIfInBounds_toArray, List.set_cons_succ, List.set_cons_zero]
                  refine wpAny_done (by kernel_rfl) ?_ _
                  first | exact ⟨A4, c4, rfl, HW4.out⟩ | exact ⟨A4, c4, by simp only [Act.mk.injEq, Array.mk.injEq, List.cons.injEq, true_and, and_true], HW4.out⟩
                · go_simp
                  refine hK _ _ ?_
                  clear hK K
                  have hl3 := HW1.out.c1
                  refine wpAny_ready (rs := [3]) (by kernel_rfl) (by simp) (AllReady.cons rfl (fun K hK => ?_) AllReady.nil)
                  go_simp
                  go_wp2_with (go_at_call 17; refine (bk_sum HW1.out hL64 HN64.out).mono ?_; rintro r W3 ⟨rfl, hk3⟩; have HW3 := Lib.hid hk3; clear hk3 hl3)
                  refine any_take (i := 6) (v := .int .i64 ((given L : Int) - x.n)) (some 90) rfl rfl (by kernel_rfl) (by kernel_rfl) (by kernel_rfl) (fun _ _ _ h => h) (Or.inl ⟨by rfl, fun w => by go_simp; exact IntWalk.i64_in _ (by omega)⟩) ?_
                  simp only [Act.put, List.setIfInBounds_toArray, List.set_cons_succ, List.set_cons_zero]
                  refine any_take (i := 7) (v := .bool false) (some 91) rfl rfl (by kernel_rfl) (by kernel_rfl) (by kernel_rfl) (fun _ _ _ h => h) (Or.inl ⟨by rfl, fun w => by go_simp⟩) ?_
                  simp only [Act.put, List.setIfInBounds_toArray, List.set_cons_succ, List.set_cons_zero]
                  refine any_take (i := 8) (v := .bool false) (some 92) rfl rfl (by kernel_rfl) (by kernel_rfl) (by kernel_rfl) (fun _ _ _ h => h) (Or.inl ⟨by rfl, fun w => by go_simp⟩) ?_
                  simp only [Act.put, List.setIfInBounds_toArray, List.set_cons_succ, List.set_cons_zero]
                  refine any_take (i := 9) (v := .pointer (some ⟨p, 0, none⟩)) (some 93) rfl rfl (by kernel_rfl) (by kernel_rfl) (by kernel_rfl) (fun _ _ _ h => h) (Or.inl ⟨by rfl, fun w => by go_simp⟩) ?_
                  simp only [Act.put, List.setIfInBounds_toArray, List.set_cons_succ, List.set_cons_zero]
                  refine any_take (i := 12) (v := .slice (some ⟨g5, 0, none⟩) L.length c5) (some 96) rfl rfl (by kernel_rfl) (by kernel_rfl) (by kernel_rfl) (fun _ _ _ h => h) (Or.inl ⟨by rfl, fun w => by go_simp⟩) ?_
                  simp only [Act.put, List.setIfInBounds_toArray, List.set_cons_succ, List.set_cons_zero]
                  refine any_take (i := 13) (v := .int .i64 L.length) (some 97) rfl rfl (by kernel_rfl) (by kernel_rfl) (by kernel_rfl) (fun _ _ _ h => h) (Or.inl ⟨by rfl, fun w => by go_simp⟩) ?_
                  simp only [Act.put, List.setIfInBounds_toArray, List.set_cons_succ, List.set_cons_zero]
                  refine any_take (i := 14) (v := .int .i64 ((L.length : Int) - 1)) (some 98) rfl rfl (by kernel_rfl) (by kernel_rfl) (by kernel_rfl) (fun _ _ _ h => h) (Or.inl ⟨by rfl, fun w => by go_simp; exact IntWalk.i64_in _ (by omega)⟩) ?_
                  simp only [Act.put, List.setIfInBounds_toArray, List.set_cons_succ, List.set_cons_zero]
                  refine wpAny_ready (rs := [10]) (by kernel_rfl) (by simp) (AllReady.cons rfl (fun K hK => ?_) AllReady.nil)
                  go_simp
                  go_wp2_with (go_at_call 16; refine (bk_regs HW3.out).mono ?_; rintro r W4 ⟨A4, c4, rfl, hk4⟩; have HW4 := Lib.hid hk4; clear hk4)
                  refine any_take (i := 11) (v := .int .i64 ((L.eraseIdx j).length : Int)) (some 95) rfl rfl (by kernel_rfl) (by kernel_rfl) (by kernel_rfl) (fun _ _ _ h => h) (Or.inl ⟨by rfl, fun w => by go_simp⟩) ?_
                  simp only [Act.put, List.setIfInBounds_toArray, List.set_cons_succ, List.set_cons_zero]
                  refine any_take (i := 15) (v := .bool false) (some 99) rfl rfl (by kernel_rfl) (by kernel_rfl) (by kernel_rfl) (fun _ _ _ h => h) (Or.inl ⟨by rfl, fun w => by go_simp⟩) ?_
                  simp only [Act.put, List.setIfInBounds_toArray, List.set_cons_succ, List.set_cons_zero]
                  refine any_take (i := 16) (v := .bool false) (some 100) rfl rfl (by kernel_rfl) (by kernel_rfl) (by kernel_rfl) (fun _ _ _ h => h) (Or.inl ⟨by rfl, fun w => by go_simp⟩) ?_
                  simp only [Act.put, List.setIfInBounds_toArray, List.set_cons_succ, List.set_cons_zero]
                  refine wpAny_done (by kernel_rfl) ?_ _
                  first | exact ⟨A4, c4, rfl, HW4.out⟩ | exact ⟨A4, c4, by simp only [Act.mk.injEq, Array.mk.injEq, List.cons.injEq, true_and, and_true], HW4.out⟩
              · go_simp
                refine hK _ _ ?_
                clear hK K
                have hl2 := HW0.out.c1
                refine wpAny_ready (rs := [1]) (by kernel_rfl) (by simp) (AllReady.cons rfl (fun K hK => ?_) AllReady.nil)
                go_simp
                go_wp2_with (go_at_call 13; refine (bk_giv HW0.out).mono ?_; rintro r W2 ⟨rfl, hk2⟩; have HW2 := Lib.hid hk2; clear hk2 hl2)
                have hl3 := HW2.out.c1
                refine wpAny_ready (rs := [3]) (by kernel_rfl) (by simp) (AllReady.cons rfl (fun K hK => ?_) AllReady.nil)
                go_simp
                go_wp2_with (go_at_call 17; refine (bk_sum HW2.out hL64 HN64.out).mono ?_; rintro r W3 ⟨rfl, hk3⟩; have HW3 := Lib.hid hk3; clear hk3 hl3)
                refine any_take (i := 6) (v := .int .i64 ((given L : Int) - x.n)) (some 90) rfl rfl (by kernel_rfl) (by kernel_rfl) (by kernel_rfl) (fun _ _ _ h => h) (Or.inl ⟨by rfl, fun w => by go_simp; exact IntWalk.i64_in _ (by omega)⟩) ?_
                simp only [Act.put, List.setIfInBounds_toArray, List.set_cons_succ, List.set_cons_zero]
                refine any_take (i := 7) (v := .bool false) (some 91) rfl rfl (by kernel_rfl) (by kernel_rfl) (by kernel_rfl) (fun _ _ _ h => h) (Or.inl ⟨by rfl, fun w => by go_simp⟩) ?_
                simp only [Act.put, List.setIfInBounds_toArray, List.set_cons_succ, List.set_cons_zero]
                refine any_take (i := 8) (v := .bool false) (some 92) rfl rfl (by kernel_rfl) (by kernel_rfl) (by kernel_rfl) (fun _ _ _ h => h) (Or.inl ⟨by rfl, fun w => by go_simp⟩) ?_
                simp only [Act.put, List.setIfInBounds_toArray, List.set_cons_succ, List.set_cons_zero]
                refine any_take (i := 9) (v := .pointer (some ⟨p, 0, none⟩)) (some 93) rfl rfl (by kernel_rfl) (by kernel_rfl) (by kernel_rfl) (fun _ _ _ h => h) (Or.inl ⟨by rfl, fun w => by go_simp⟩) ?_
                simp only [Act.put, List.setIfInBounds_toArray, List.set_cons_succ, List.set_cons_zero]
                refine any_take (i := 12) (v := .slice (some ⟨g5, 0, none⟩) L.length c5) (some 96) rfl rfl (by kernel_rfl) (by kernel_rfl) (by kernel_rfl) (fun _ _ _ h => h) (Or.inl ⟨by rfl, fun w => by go_simp⟩) ?_
                simp only [Act.put, List.setIfInBounds_toArray, List.set_cons_succ, List.set_cons_zero]
                refine any_take (i := 13) (v := .int .i64 L.length) (some 97) rfl rfl (by kernel_rfl) (by kernel_rfl) (by kernel_rfl) (fun _ _ _ h => h) (Or.inl ⟨by rfl, fun w => by go_simp⟩) ?_
                simp only [Act.put, List.setIfInBounds_toArray, List.set_cons_succ, List.set_cons_zero]
                refine any_take (i := 14) (v := .int .i64 ((L.length : Int) - 1)) (some 98) rfl rfl (by kernel_rfl) (by kernel_rfl) (by kernel_rfl) (fun _ _ _ h => h) (Or.inl ⟨by rfl, fun w => by go_simp; exact IntWalk.i64_in _ (by omega)⟩) ?_
                simp only [Act.put, List.setIfInBounds_toArray, List.set_cons_succ, List.set_cons_zero]
                refine wpAny_ready (rs := [10]) (by kernel_rfl) (by simp) (AllReady.cons rfl (fun K hK => ?_) AllReady.nil)
                go_simp
                go_wp2_with (go_at_call 16; refine (bk_regs HW3.out).mono ?_; rintro r W4 ⟨A4, c4, rfl, hk4⟩; have HW4 := Lib.hid hk4; clear hk4)
                refine any_take (i := 11) (v := .int .i64 ((L.eraseIdx j).length : Int)) (some 95) rfl rfl (by kernel_rfl) (by kernel_rfl) (by kernel_rfl) (fun _ _ _ h => h) (Or.inl ⟨by rfl, fun w => by go_simp⟩) ?_
                simp only [Act.put, List.setIfInBounds_toArray, List.set_cons_succ, List.set_cons_zero]
                refine any_take (i := 15) (v := .bool false) (some 99) rfl rfl (by kernel_rfl) (by kernel_rfl) (by kernel_rfl) (fun _ _ _ h => h) (Or.inl ⟨by rfl, fun w => by go_simp⟩) ?_
                simp only [Act.put, List.setIfInBounds_toArray, List.set_cons_succ, List.set_cons_zero]
                refine any_take (i := 16) (v := .bool false) (some 100) rfl rfl (by kernel_rfl) (by kernel_rfl) (by kernel_rfl) (fun _ _ _ h => h) (Or.inl ⟨by rfl, fun w => by go_simp⟩) ?_
                simp only [Act.put, List.setIfInBounds_toArray, List.set_cons_succ, List.set_cons_zero]
                refine wpAny_done (by kernel_rfl) ?_ _
                first | exact ⟨A4, c4, rfl, HW4.out⟩ | exact ⟨A4, c4, by simp only [Act.mk.injEq, Array.mk.injEq, List.cons.injEq, true_and, and_true], HW4.out⟩
          · have hxnI : (x.n : Int) ≤ 1 := by omega
            go_wp2_with (go_at_call 16; refine (regs_law HAr.out).mono ?_; rintro r w5 ⟨u, rfl, ho5, hb5⟩; obtain ⟨A5, c5, rfl, _, _⟩ := ho5.form; obtain ⟨g5, rfl, _, _, hu0, hu1, _⟩ := ho5.at HX.out; have HO5 := Lib.hid ho5; have HB5 := Lib.hid hb5; clear ho5 hb5)
            obtain ⟨E, hbk, heb⟩ : ∃ E : Nat → Prop, Bk E _ _ p w5.heap.size (.slice (some ⟨g5, 0, none⟩) L.length c5) x L ⟨64, 64, L, [], rf⟩ ∧ ∀ k, k < w.heap.size → E k := ⟨_, bk_new HAr.out HB.out.size HB5.out HO5.out x, fun k hk => .inl hk⟩
            have HEB := Lib.hid heb
            clear heb
            have HBK := Lib.hid hbk
            have HEQ := Lib.hid hjI
            have hq0 := hbk.c0
            have hq1 := hbk.c1
            clear hbk hjI hu0 hu1
            obtain ⟨wX, hwX⟩ : ∃ wX, wX = w5.alloc (.cells #[.int .i64 (x.a : Int), .int .i64 (x.n : Int)] 39) := ⟨_, rfl⟩
            rw [← hwX] at HBK hq0 hq1 ⊢
            have HBW := Lib.hid (show Below w.heap.size w wX by rw [hwX]; exact (HB.out.trans (HB5.out.mono HB.out.size)).alloc (Nat.le_trans HB.out.size HB5.out.size) _)
            clear hwX
            go_wp2_with fail
            refine (bk_rel HBK.out (back_64 HG.out)).mono ?_
            rintro r w7 ⟨rfl, hk7⟩
            have hs0 := hk7.c0
            have hs1 := hk7.c1
            have HK7 := Lib.hid hk7
            clear hk7
            go_wp2_with fail
            refine (bk_rel HK7.out (back_yes HG.out HX.out)).mono ?_
            rintro r w8 ⟨rfl, hk8⟩
            have ht0 := hk8.c0
            have ht1 := hk8.c1
            have HK8 := Lib.hid hk8
            clear hk8
            go_wp2_with fail
            refine (bk_rel HK8.out (back_no HG.out HX.out)).mono ?_
            rintro r w9 ⟨rfl, hk9⟩
            have hv0 := hk9.c0
            have hv1 := hk9.c1
            have HK9 := Lib.hid hk9
            clear hk9
            go_wp2_with fail
            obtain ⟨q, hag, hqx, hm1, hm2⟩ := back_again (rf := rf) HG.out HX.out
            have hqxI : (q : Int) ≤ x.a := by omega
            have hge := given_eraseIdx HX.out
            have hle : (L.eraseIdx j).length + 1 = L.length := by rw [List.length_eraseIdx_of_lt hjl]; omega
            have hgL := given_le HG.out
            have hgb : ((given (L.eraseIdx j) : Int) != (given L : Int) - x.n) = false := by simp; omega
            have hgb2 : (((L.eraseIdx j).length : Int) != (L.length : Int) - 1) = false := by simp; omega
            have hgLI : (given L : Int) ≤ 64 := by omega
            have hgx : (x.n : Int) ≤ given L := by omega
            have HAG := Lib.hid hag
            have HM1 := Lib.hid hm1
            have HM2 := Lib.hid hm2
            have HR64 : Hid (∀ r ∈ L, r.a + r.n ≤ 64) := Lib.hid (fun r hr => (HG.out.2 r hr).2)
            have HN64 : Hid (∀ r ∈ L, r.n ≤ 64) := Lib.hid (fun r hr => by have := (HG.out.2 r hr).2; omega)
            have HW0 := Lib.hid (HK9.out.below ((Below.refl _ _).drew))
            clear hag hm1 hm2 hge hle
            refine Code.wp_mono (AtEnd.imp (R := fun a' W' => ∃ (A' : Option Addr) (c' : Nat), a' = { tmps := #[.slice A N C, .int .u8 wh, undef, undef, .bool false, .pointer (some ⟨p, 0, none⟩), .int .i64 0, undef, u8, .slice (some ⟨g5, 0, none⟩) L.length c5, .pointer (some ⟨w5.heap.size, 0, none⟩), undef, undef, .bool true, .bool false, .tuple #[.pointer (some ⟨p, 0, none⟩), .int .i64 0], .tuple #[.pointer (some ⟨p, 0, none⟩), .int .i64 0], .pointer (some ⟨p, 0, none⟩), .int .i64 0, .int .i64 0, .bool false, .bool false, .slice A N C, .int .i64 N, .bool (decide ((64 : Int) < N)), .bool (decide ((64 : Int) < N)), undef, undef, .slice A N C, .int .i64 N, .int .i64 k, .bool false, u32, u33, u34, u35, u36, u37, u38, u39, u40, .pointer (some ⟨p, 0, none⟩), .slice (some ⟨g5, 0, none⟩) L.length c5, .slice (some ⟨g5, 0, none⟩) L.length c5, .int .i64 L.length, .bool false, .slice (some ⟨g5, 0, none⟩) L.length c5, .int .u8 wh, .int .i64 wh, .slice (some ⟨g5, 0, none⟩) L.length c5, .int .i64 L.length, .int .i64 j, .pointer (some ⟨g5, j * 2, none⟩), .agg #[.int .i64 (x.a : Int), .int .i64 (x.n : Int)], .pointer (some ⟨w5.heap.size, 1, none⟩), .int .i64 (x.n : Int), .bool false, .bool false, undef, undef, undef, undef, undef, undef, .bool false, .bool false, .pointer (some ⟨p, 0, none⟩), .int .i64 5, .bool false, .bool false, .bool false, .pointer (some ⟨p, 0, none⟩), .pointer (some ⟨w5.heap.size, 0, none⟩), .int .i64 (x.a : Int), .int .i64 0, .bool false, .bool false, .bool false, .pointer (some ⟨p, 0, none⟩), .pointer (some ⟨w5.heap.size, 0, none⟩), .int .i64 (x.a : Int), .int .i64 5, .bool false, .bool false, .pointer (some ⟨p, 0, none⟩), .int .i64 (given (L.eraseIdx j) : Int), .slice (some ⟨g5, 0, none⟩) L.length c5, .int .i64 (given L : Int), .pointer (some ⟨w5.heap.size, 1, none⟩), .int .i64 (x.n : Int), .int .i64 ((given L : Int) - x.n), .bool false, .bool false, .pointer (some ⟨p, 0, none⟩), .slice A' (L.eraseIdx j).length c', .int .i64 ((L.eraseIdx j).length : Int), .slice (some ⟨g5, 0, none⟩) L.length c5, .int .i64 L.length, .int .i64 ((L.length : Int) - 1), .bool false, .bool false, undef, undef, undef, undef, undef, undef, undef, undef, undef, undef, undef, undef, undef, undef, undef, undef, undef, undef, undef, undef, undef, undef, undef, undef, undef, undef, undef, undef], defers := [] } ∧ Bk E wX W' p w5.heap.size (.slice (some ⟨g5, 0, none⟩) L.length c5) x L ⟨64, 64, L.eraseIdx j, [], rf⟩) ?_) ?_
            · rintro a' W' ⟨A', c', rfl, hkz⟩
              have HWZ := Lib.hid hkz
              clear hkz
              dsimp only [Exit.then]
              have hy1 := HWZ.out.c1
              go_wp2_with fail
              refine (bk_res HWZ.out (by show rf + 1 ≤ 1000000; omega) HAG.out).mono ?_
              rintro r V ⟨rfl, hv⟩
              have hz0 := hv.c0
              have hz1 := hv.c1
              have HV := Lib.hid hv
              have HCR := Lib.hid (fun (d : Nat) (os : Array Obj) (o : Nat) => (below_regrown V d os).cell (p := ⟨w5.heap.size, o, none⟩) (hv.eb1 _ hv.ez))
              have H18 := Lib.hid (fun (d : Nat) (os : Array Obj) => lowest_any 0 c5 q (some ⟨g5, 0, none⟩) L x (Go.Sort.grow (redrawn V d) os) hL64 HR64.out (by omega) (hv.own1.mod (S := fun _ => False) (Mod.of_below (below_regrown V d os) (Nat.le_refl _)) (fun _ _ h => h)) (by omega) HM1.out HM2.out)
              clear hv
              go_wp2
              have hcr := HCR.out
              refine wp_region_quiet_below (by kernel_rfl) (by kernel_rfl) ?_
              repeat (go_big_quiet_step ((go_at_call 18; exact Calls.regrown_of (H18.out _ _))))
              refine wpQuiet_nil ?_
              intro W2 hw2
              have hb2 : Below V.heap.size V W2 := by obtain ⟨⟨dq, osq⟩, rfl⟩ := hw2; exact below_regrown _ _ _
              clear hw2 hcr
              go_wp2
              go_ret
              exact ⟨ret_bool (by simp), (HBW.out.trans ((HV.out.belowB (B := w.heap.size) HEB.out).trans (hb2.mono (by have := HV.out.md.size; have := HBW.out.size; omega))))⟩
            · refine wp_region_any (by kernel_rfl) ?_
              change wpAny _ _ _ _ _ _ _ (World.drew _)
              refine any_take (i := 0) (v := .pointer (some ⟨p, 0, none⟩)) (some 84) rfl rfl (by kernel_rfl) (by kernel_rfl) (by kernel_rfl) (fun _ _ _ h => h) (Or.inl ⟨by rfl, fun w => by go_simp⟩) ?_
              simp only [Act.put, List.setIfInBounds_toArray, List.set_cons_succ, List.set_cons_zero]
              refine any_take (i := 2) (v := .slice (some ⟨g5, 0, none⟩) L.length c5) (some 86) rfl rfl (by kernel_rfl) (by kernel_rfl) (by kernel_rfl) (fun _ _ _ h => h) (Or.inl ⟨by rfl, fun w => by go_simp⟩) ?_
              simp only [Act.put, List.setIfInBounds_toArray, List.set_cons_succ, List.set_cons_zero]
              refine any_take (i := 4) (v := .pointer (some ⟨w5.heap.size, 1, none⟩)) (some 88) rfl rfl (by kernel_rfl) (by kernel_rfl) (by kernel_rfl) (fun _ _ _ h => h) (Or.inl ⟨by rfl, fun w => by go_simp⟩) ?_
              simp only [Act.put, List.setIfInBounds_toArray, List.set_cons_succ, List.set_cons_zero]
              have hl1 := HW0.out.c1
              refine wpAny_ready (rs := [1, 5]) (by kernel_rfl) (by simp) (AllReady.cons rfl (fun K hK => ?_) (AllReady.cons rfl (fun K hK => ?_) AllReady.nil))
              · go_simp
                go_wp2_with (go_at_call 13; refine (bk_giv HW0.out).mono ?_; rintro r W1 ⟨rfl, hk1⟩; have HW1 := Lib.hid hk1; clear hk1 hl1)
                have hl2 := HW1.out.c1
                refine wpAny_ready (rs := [3, 5]) (by kernel_rfl) (by simp) (AllReady.cons rfl (fun K hK => ?_) (AllReady.cons rfl (fun K hK => ?_) AllReady.nil))
                · go_simp
                  go_wp2_with (go_at_call 17; refine (bk_sum HW1.out hL64 HN64.out).mono ?_; rintro r W2 ⟨rfl, hk2⟩; have HW2 := Lib.hid hk2; clear hk2 hl2)
                  have hl3 := HW2.out.c1
                  refine wpAny_ready (rs := [5]) (by kernel_rfl) (by simp) (AllReady.cons rfl (fun K hK => ?_) AllReady.nil)
                  go_simp
                  refine hK _ _ ?_
                  clear hK K
                  refine any_take (i := 6) (v := .int .i64 ((given L : Int) - x.n)) (some 90) rfl rfl (by kernel_rfl) (by kernel_rfl) (by kernel_rfl) (fun _ _ _ h => h) (Or.inl ⟨by rfl, fun w => by go_simp; exact IntWalk.i64_in _ (by omega)⟩) ?_
                  simp only [Act.put, List.setIfInBounds_toArray, List.set_cons_succ, List.set_cons_zero]
                  refine any_take (i := 7) (v := .bool false) (some 91) rfl rfl (by kernel_rfl) (by kernel_rfl) (by kernel_rfl) (fun _ _ _ h => h) (Or.inl ⟨by rfl, fun w => by go_simp⟩) ?_
                  simp only [Act.put, List.setIfInBounds_toArray, List.set_cons_succ, List.set_cons_zero]
                  refine any_take (i := 8) (v := .bool false) (some 92) rfl rfl (by kernel_rfl) (by kernel_rfl) (by kernel_rfl) (fun _ _ _ h => h) (Or.inl ⟨by rfl, fun w => by go_simp⟩) ?_
                  simp only [Act.put, List.setIfInBounds_toArray, List.set_cons_succ, List.set_cons_zero]
                  refine any_take (i := 9) (v := .pointer (some ⟨p, 0, none⟩)) (some 93) rfl rfl (by kernel_rfl) (by kernel_rfl) (by kernel_rfl) (fun _ _ _ h => h) (Or.inl ⟨by rfl, fun w => by go_simp⟩) ?_
                  simp only [Act.put, List.setIfInBounds_toArray, List.set_cons_succ, List.set_cons_zero]
                  refine any_take (i := 12) (v := .slice (some ⟨g5, 0, none⟩) L.length c5) (some 96) rfl rfl (by kernel_rfl) (by kernel_rfl) (by kernel_rfl) (fun _ _ _ h => h) (Or.inl ⟨by rfl, fun w => by go_simp⟩) ?_
                  simp only [Act.put, List.setIfInBounds_toArray, List.set_cons_succ, List.set_cons_zero]
                  refine any_take (i := 13) (v := .int .i64 L.length) (some 97) rfl rfl (by kernel_rfl) (by kernel_rfl) (by kernel_rfl) (fun _ _ _ h => h) (Or.inl ⟨by rfl, fun w => by go_simp⟩) ?_
                  simp only [Act.put, List.setIfInBounds_toArray, List.set_cons_succ, List.set_cons_zero]
                  refine any_take (i := 14) (v := .int .i64 ((L.length : Int) - 1)) (some 98) rfl rfl (by kernel_rfl) (by kernel_rfl) (by kernel_rfl) (fun _ _ _ h => h) (Or.inl ⟨by rfl, fun w => by go_simp; exact IntWalk.i64_in _ (by omega)⟩) ?_
                  simp only [Act.put, List.setIfInBounds_toArray, List.set_cons_succ, List.set_cons_zero]
                  refine wpAny_ready (rs := [10]) (by kernel_rfl) (by simp) (AllReady.cons rfl (fun K hK => ?_) AllReady.nil)
                  go_simp
                  go_wp2_with (go_at_call 16; refine (bk_regs HW2.out).mono ?_; rintro r W4 ⟨A4, c4, rfl, hk4⟩; have HW4 := Lib.hid hk4; clear hk4)
                  refine any_take (i := 11) (v := .int .i64 ((L.eraseIdx j).length : Int)) (some 95) rfl rfl (by kernel_rfl) (by kernel_rfl) (by kernel_rfl) (fun _ _ _ h => h) (Or.inl ⟨by rfl, fun w => by go_simp⟩) ?_
                  simp only [Act.put, List.setIfInBounds_toArray, List.set_cons_succ, List.set_cons_zero]
                  refine any_take (i := 15) (v := .bool false) (some 99) rfl rfl (by kernel_rfl) (by kernel_rfl) (by kernel_rfl) (fun _ _ _ h => h) (Or.inl ⟨by rfl, fun w => by go_simp⟩) ?_
                  simp only [Act.put, List.setIfInBounds_toArray, List.set_cons_succ, List.set_cons_zero]
                  refine any_take (i := 16) (v := .bool false) (some 100) rfl rfl (by kernel_rfl) (by kernel_rfl) (by kernel_rfl) (fun _ _ _ h => h) (Or.inl ⟨by rfl, fun w => by go_simp⟩) ?_
                  simp only [Act.put, List.setIfInBounds_toArray, List.set_cons_succ, List.set_cons_zero]
                  refine wpAny_done (by kernel_rfl) ?_ _
                  first | exact ⟨A4, c4, rfl, HW4.out⟩ | exact ⟨A4, c4, by simp only [Act.mk.injEq, Array.mk.injEq, List.cons.injEq, true_and, and_true], HW4.out⟩
                · go_simp
                  refine hK _ _ ?_
                  clear hK K
                  have hl3 := HW1.out.c1
                  refine wpAny_ready (rs := [3]) (by kernel_rfl) (by simp) (AllReady.cons rfl (fun K hK => ?_) AllReady.nil)
                  go_simp
                  go_wp2_with (go_at_call 17; refine (bk_sum HW1.out hL64 HN64.out).mono ?_; rintro r W3 ⟨rfl, hk3⟩; have HW3 := Lib.hid hk3; clear hk3 hl3)
                  refine any_take (i := 6) (v := .int .i64 ((given L : Int) - x.n)) (some 90) rfl rfl (by kernel_rfl) (by kernel_rfl) (by kernel_rfl) (fun _ _ _ h => h) (Or.inl ⟨by rfl, fun w => by go_simp; exact IntWalk.i64_in _ (by omega)⟩) ?_
                  simp only [Act.put, List.setIfInBounds_toArray, List.set_cons_succ, List.set_cons_zero]
                  refine any_take (i := 7) (v := .bool false) (some 91) rfl rfl (by kernel_rfl) (by kernel_rfl) (by kernel_rfl) (fun _ _ _ h => h) (Or.inl ⟨by rfl, fun w => by go_simp⟩) ?_
                  simp only [Act.put, List.setIfInBounds_toArray, List.set_cons_succ, List.set_cons_zero]
                  refine any_take (i := 8) (v := .bool false) (some 92) rfl rfl (by kernel_rfl) (by kernel_rfl) (by kernel_rfl) (fun _ _ _ h => h) (Or.inl ⟨by rfl, fun w => by go_simp⟩) ?_
                  simp only [Act.put, List.setIfInBounds_toArray, List.set_cons_succ, List.set_cons_zero]
                  refine any_take (i := 9) (v := .pointer (some ⟨p, 0, none⟩)) (some 93) rfl rfl (by kernel_rfl) (by kernel_rfl) (by kernel_rfl) (fun _ _ _ h => h) (Or.inl ⟨by rfl, fun w => by go_simp⟩) ?_
                  simp only [Act.put, List.setIfInBounds_toArray, List.set_cons_succ, List.set_cons_zero]
                  refine any_take (i := 12) (v := .slice (some ⟨g5, 0, none⟩) L.length c5) (some 96) rfl rfl (by kernel_rfl) (by kernel_rfl) (by kernel_rfl) (fun _ _ _ h => h) (Or.inl ⟨by rfl, fun w => by go_simp⟩) ?_
                  simp only [Act.put, List.setIfInBounds_toArray, List.set_cons_succ, List.set_cons_zero]
                  refine any_take (i := 13) (v := .int .i64 L.length) (some 97) rfl rfl (by kernel_rfl) (by kernel_rfl) (by kernel_rfl) (fun _ _ _ h => h) (Or.inl ⟨by rfl, fun w => by go_simp⟩) ?_
                  simp only [Act.put, List.setIfInBounds_toArray, List.set_cons_succ, List.set_cons_zero]
                  refine any_take (i := 14) (v := .int .i64 ((L.length : Int) - 1)) (some 98) rfl rfl (by kernel_rfl) (by kernel_rfl) (by kernel_rfl) (fun _ _ _ h => h) (Or.inl ⟨by rfl, fun w => by go_simp; exact IntWalk.i64_in _ (by omega)⟩) ?_
                  simp only [Act.put, List.setIfInBounds_toArray, List.set_cons_succ, List.set_cons_zero]
                  refine wpAny_ready (rs := [10]) (by kernel_rfl) (by simp) (AllReady.cons rfl (fun K hK => ?_) AllReady.nil)
                  go_simp
                  go_wp2_with (go_at_call 16; refine (bk_regs HW3.out).mono ?_; rintro r W4 ⟨A4, c4, rfl, hk4⟩; have HW4 := Lib.hid hk4; clear hk4)
                  refine any_take (i := 11) (v := .int .i64 ((L.eraseIdx j).length : Int)) (some 95) rfl rfl (by kernel_rfl) (by kernel_rfl) (by kernel_rfl) (fun _ _ _ h => h) (Or.inl ⟨by rfl, fun w => by go_simp⟩) ?_
                  simp only [Act.put, List.setIfInBounds_toArray, List.set_cons_succ, List.set_cons_zero]
                  refine any_take (i := 15) (v := .bool false) (some 99) rfl rfl (by kernel_rfl) (by kernel_rfl) (by kernel_rfl) (fun _ _ _ h => h) (Or.inl ⟨by rfl, fun w => by go_simp⟩) ?_
                  simp only [Act.put, List.setIfInBounds_toArray, List.set_cons_succ, List.set_cons_zero]
                  refine any_take (i := 16) (v := .bool false) (some 100) rfl rfl (by kernel_rfl) (by kernel_rfl) (by kernel_rfl) (fun _ _ _ h => h) (Or.inl ⟨by rfl, fun w => by go_simp⟩) ?_
                  simp only [Act.put, List.setIfInBounds_toArray, List.set_cons_succ, List.set_cons_zero]
                  refine wpAny_done (by kernel_rfl) ?_ _
                  first | exact ⟨A4, c4, rfl, HW4.out⟩ | exact ⟨A4, c4, by simp only [Act.mk.injEq, Array.mk.injEq, List.cons.injEq, true_and, and_true], HW4.out⟩
              · go_simp
                refine hK _ _ ?_
                clear hK K
                have hl2 := HW0.out.c1
                refine wpAny_ready (rs := [1]) (by kernel_rfl) (by simp) (AllReady.cons rfl (fun K hK => ?_) AllReady.nil)
                go_simp
                go_wp2_with (go_at_call 13; refine (bk_giv HW0.out).mono ?_; rintro r W2 ⟨rfl, hk2⟩; have HW2 := Lib.hid hk2; clear hk2 hl2)
                have hl3 := HW2.out.c1
                refine wpAny_ready (rs := [3]) (by kernel_rfl) (by simp) (AllReady.cons rfl (fun K hK => ?_) AllReady.nil)
                go_simp
                go_wp2_with (go_at_call 17; refine (bk_sum HW2.out hL64 HN64.out).mono ?_; rintro r W3 ⟨rfl, hk3⟩; have HW3 := Lib.hid hk3; clear hk3 hl3)
                refine any_take (i := 6) (v := .int .i64 ((given L : Int) - x.n)) (some 90) rfl rfl (by kernel_rfl) (by kernel_rfl) (by kernel_rfl) (fun _ _ _ h => h) (Or.inl ⟨by rfl, fun w => by go_simp; exact IntWalk.i64_in _ (by omega)⟩) ?_
                simp only [Act.put, List.setIfInBounds_toArray, List.set_cons_succ, List.set_cons_zero]
                refine any_take (i := 7) (v := .bool false) (some 91) rfl rfl (by kernel_rfl) (by kernel_rfl) (by kernel_rfl) (fun _ _ _ h => h) (Or.inl ⟨by rfl, fun w => by go_simp⟩) ?_
                simp only [Act.put, List.setIfInBounds_toArray, List.set_cons_succ, List.set_cons_zero]
                refine any_take (i := 8) (v := .bool false) (some 92) rfl rfl (by kernel_rfl) (by kernel_rfl) (by kernel_rfl) (fun _ _ _ h => h) (Or.inl ⟨by rfl, fun w => by go_simp⟩) ?_
                simp only [Act.put, List.setIfInBounds_toArray, List.set_cons_succ, List.set_cons_zero]
                refine any_take (i := 9) (v := .pointer (some ⟨p, 0, none⟩)) (some 93) rfl rfl (by kernel_rfl) (by kernel_rfl) (by kernel_rfl) (fun _ _ _ h => h) (Or.inl ⟨by rfl, fun w => by go_simp⟩) ?_
                simp only [Act.put, List.setIfInBounds_toArray, List.set_cons_succ, List.set_cons_zero]
                refine any_take (i := 12) (v := .slice (some ⟨g5, 0, none⟩) L.length c5) (some 96) rfl rfl (by kernel_rfl) (by kernel_rfl) (by kernel_rfl) (fun _ _ _ h => h) (Or.inl ⟨by rfl, fun w => by go_simp⟩) ?_
                simp only [Act.put, List.setIfInBounds_toArray, List.set_cons_succ, List.set_cons_zero]
                refine any_take (i := 13) (v := .int .i64 L.length) (some 97) rfl rfl (by kernel_rfl) (by kernel_rfl) (by kernel_rfl) (fun _ _ _ h => h) (Or.inl ⟨by rfl, fun w => by go_simp⟩) ?_
                simp only [Act.put, List.setIfInBounds_toArray, List.set_cons_succ, List.set_cons_zero]
                refine any_take (i := 14) (v := .int .i64 ((L.length : Int) - 1)) (some 98) rfl rfl (by kernel_rfl) (by kernel_rfl) (by kernel_rfl) (fun _ _ _ h => h) (Or.inl ⟨by rfl, fun w => by go_simp; exact IntWalk.i64_in _ (by omega)⟩) ?_
                simp only [Act.put, List.setIfInBounds_toArray, List.set_cons_succ, List.set_cons_zero]
                refine wpAny_ready (rs := [10]) (by kernel_rfl) (by simp) (AllReady.cons rfl (fun K hK => ?_) AllReady.nil)
                go_simp
                go_wp2_with (go_at_call 16; refine (bk_regs HW3.out).mono ?_; rintro r W4 ⟨A4, c4, rfl, hk4⟩; have HW4 := Lib.hid hk4; clear hk4)
                refine any_take (i := 11) (v := .int .i64 ((L.eraseIdx j).length : Int)) (some 95) rfl rfl (by kernel_rfl) (by kernel_rfl) (by kernel_rfl) (fun _ _ _ h => h) (Or.inl ⟨by rfl, fun w => by go_simp⟩) ?_
                simp only [Act.put, List.setIfInBounds_toArray, List.set_cons_succ, List.set_cons_zero]
                refine any_take (i := 15) (v := .bool false) (some 99) rfl rfl (by kernel_rfl) (by kernel_rfl) (by kernel_rfl) (fun _ _ _ h => h) (Or.inl ⟨by rfl, fun w => by go_simp⟩) ?_
                simp only [Act.put, List.setIfInBounds_toArray, List.set_cons_succ, List.set_cons_zero]
                refine any_take (i := 16) (v := .bool false) (some 100) rfl rfl (by kernel_rfl) (by kernel_rfl) (by kernel_rfl) (fun _ _ _ h => h) (Or.inl ⟨by rfl, fun w => by go_simp⟩) ?_
                simp only [Act.put, List.setIfInBounds_toArray, List.set_cons_succ, List.set_cons_zero]
                refine wpAny_done (by kernel_rfl) ?_ _
                first | exact ⟨A4, c4, rfl, HW4.out⟩ | exact ⟨A4, c4, by simp only [Act.mk.injEq, Array.mk.injEq, List.cons.injEq, true_and, and_true], HW4.out⟩
  · have h64I : (64 : Int) < N := by omega
    go_enter Try.func5, Try.ntmps5
    go_wp2_with (first
      | (go_at_call 9; refine (alive_any w).mono ?_; rintro r w1 ⟨rfl, hb1⟩)
      | (go_at_call 10; refine (new_law 64 64 w.heap.size _ rfl rfl (by omega) (by omega) (by omega) hb1.size).mono ?_; rintro r w2 ⟨p, rfl, hA2, hb2⟩; have HB2 := Lib.hid (hb1.trans hb2); clear hA2 hb2 hb1))
    go_ret
    exact ⟨rfl, HB2.out⟩
end Go.Proofs.Ytjcnaefgffnphaa
