/- The ledger's Drop, turn, Hold and Let. -/
import Derived.Test.YtgkloacfickeaaaEach
namespace Go.Proofs.Ytgkloacfickeaaa
open Go.RowKit
set_option linter.unusedVariables false

theorem turnA_some {held : Bool} {no : Int} {es : List Ent} {i : Nat} {e : Ent} (he : es[i]? = some e) : turnA held no es i = (turnE e held no, es.set i (e.turned held)) := by
  unfold turnA; rw [he]

set_option maxHeartbeats 2000000 in
theorem each_turn (p base bx by_ bz n c : Nat) (held : Bool) (no : Int) (A : Option Addr) (xs : List Int) (v : Value) (es : List Ent) (w : World) (hlen : es.length ≤ 1000000) (hs : Fit es) (hL : Led w base p v es)
    (hA : Ads w (LS p v) A n xs) (hn : n ≤ 9223372036854775807) (hb : w.cell? ⟨bx, 0, none⟩ = some (.pointer (some ⟨p, 0, none⟩))) (hbs : ¬ LS p v bx)
    (hb2 : w.cell? ⟨by_, 0, none⟩ = some (.bool held)) (hbs2 : ¬ LS p v by_) (hb3 : w.cell? ⟨bz, 0, none⟩ = some (.int .i64 no)) (hbs3 : ¬ LS p v bz) :
    Calls Try.prog 34 #[.pointer (some ⟨p, 0, none⟩), .func (.func 44) #[] #[.pointer (some ⟨bx, 0, none⟩), .pointer (some ⟨by_, 0, none⟩), .pointer (some ⟨bz, 0, none⟩)], .slice A n c] w fun r w' =>
      r = .returned (.int .i64 (eachS (turnA held no) es xs).1) ∧ ∃ v', Led w' base p v' (eachS (turnA held no) es xs).2 ∧ v'.ownBlock = v.ownBlock ∧ Mod (LS p v) w w' := by
  have HX := Lib.hid hA.1
  have HA := Lib.hid hA.2
  have HL := Lib.hid hL
  have HB := Lib.hid hb
  have HB2 := Lib.hid hb2
  have HB3 := Lib.hid hb3
  have HS := Lib.hid hs
  clear hA hL hb hb2 hb3 hs
  go_enter Try.func34, Try.ntmps34
  go_wp2
  go_loopw [16] (fun i wr => ∃ (k : Nat) (vk : Value) (ek : List Ent), k ≤ n ∧ i = .int .i64 k ∧ eachS (turnA held no) es xs = eachS (turnA held no) ek (xs.drop k) ∧ Led wr base p vk ek ∧ vk.ownBlock = v.ownBlock ∧ Fit ek ∧ ek.length ≤ 1000000 ∧ Mod (LS p v) w wr)
    (fun i _ => n - (intOf i).toNat)
  case atStart => exact ⟨0, v, es, Nat.zero_le _, rfl, rfl, HL.out, rfl, HS.out, hlen, Mod.refl _ _⟩
  case round =>
    obtain ⟨k, vk, ek, hk, rfl, heq, hLk, hvk, hFk, hlk, hM⟩ := hrel
    have HEQ := Lib.hid heq
    have HLK := Lib.hid hLk
    have HVK := Lib.hid hvk
    have HFK := Lib.hid hFk
    clear heq hLk hvk hFk
    by_cases hlt : k < n
    · obtain ⟨ad, rfl, had, hcell⟩ := HA.out (by omega)
      obtain ⟨t, ht⟩ : ∃ t, xs[k]? = some t := ⟨xs[k]'(by rw [HX.out]; exact hlt), by simp⟩
      have hc := hM.cellA (by rw [block_of_add]; exact had) (hcell k t ht)
      have hkI : (k : Int) < n := by omega
      have HT := Lib.hid ht
      clear ht hcell had
      have H := place_any p base vk ek t wr hlk HFK.out.rising HLK.out
      cases hf : found ek t
      · rw [hf] at H
        have HH := Lib.hid H
        have HF := Lib.hid hf
        clear H hf
        go_wp2_with (go_at_call 28; refine HH.out.mono ?_; rintro r w1 ⟨rfl, hb1⟩)
        go_ret
        rw [HEQ.out, eachS_none HT.out HF.out]
        exact ⟨rfl, vk, HLK.out.below hb1 (Nat.le_refl _), HVK.out, hM.trans (Mod.of_below (S := fun _ => False) hb1 (Nat.le_refl _)) (fun _ _ h => h.elim)⟩
      · obtain ⟨e, he, _⟩ := found_some hf
        have hlb : lb ek t < ek.length := (List.getElem?_eq_some_iff.1 he).1
        rw [hf] at H
        have HH := Lib.hid H
        have HF := Lib.hid hf
        have HE := Lib.hid he
        clear H hf he
        have fin : ∀ (w1 w2 : World), Below wr.heap.size wr w1 → Led w2 base p vk (ek.set (lb ek t) (e.turned held)) → Mod (LS p vk) w1 w2 → Mod (LS p v) w w2 := by
          intro w1 w2 hb1 _ hm2
          refine (hM.trans (Mod.of_below (S := fun _ => False) hb1 (Nat.le_refl _)) (fun _ _ h => h.elim)).trans hm2 (fun i _ h => ?_)
          rwa [LS, HVK.out] at h
        have FIN := Lib.hid fin
        clear fin
        by_cases hz : turnE e held no = 0
        · have hz1 : (turnE e held no != 0) = false := by simp [hz]
          have HZ := Lib.hid hz
          clear hz
          go_wp2_with (first | (go_at_call 28; refine HH.out.mono ?_; rintro r w1 ⟨rfl, hb1⟩) | (go_at_call 44; refine (turn1_any p base bx by_ bz (lb ek t) held no vk ek e _ hlk (HLK.out.below hb1 (Nat.le_refl _)) HE.out (by exact (Mod.of_below (S := fun _ => False) hb1 (Nat.le_refl _)).cell (fun h => h) (hM.cell hbs HB.out)) (by exact (Mod.of_below (S := fun _ => False) hb1 (Nat.le_refl _)).cell (fun h => h) (hM.cell hbs2 HB2.out)) (by exact (Mod.of_below (S := fun _ => False) hb1 (Nat.le_refl _)).cell (fun h => h) (hM.cell hbs3 HB3.out))).mono ?_; rintro r w2 ⟨rfl, hL2, hm2⟩))
          have HL2 := Lib.hid hL2
          clear hL2
          go_roundw
          case rel =>
            refine ⟨k + 1, vk, ek.set (lb ek t) (e.turned held), by omega, by go_num, ?_, HL2.out, HVK.out, fit_turn HFK.out HE.out _, ?_, FIN.out w1 _ hb1 HL2.out hm2⟩
            · rw [HEQ.out, eachS_go HT.out HF.out (by rw [turnA_some HE.out]; exact HZ.out), turnA_some HE.out]
            · rw [List.length_set]; exact hlk
          case measure => simp [intOf]; omega
        · have hz1 : (turnE e held no != 0) = true := by simp [hz]
          have HZ := Lib.hid hz
          clear hz
          go_wp2_with (first | (go_at_call 28; refine HH.out.mono ?_; rintro r w1 ⟨rfl, hb1⟩) | (go_at_call 44; refine (turn1_any p base bx by_ bz (lb ek t) held no vk ek e _ hlk (HLK.out.below hb1 (Nat.le_refl _)) HE.out (by exact (Mod.of_below (S := fun _ => False) hb1 (Nat.le_refl _)).cell (fun h => h) (hM.cell hbs HB.out)) (by exact (Mod.of_below (S := fun _ => False) hb1 (Nat.le_refl _)).cell (fun h => h) (hM.cell hbs2 HB2.out)) (by exact (Mod.of_below (S := fun _ => False) hb1 (Nat.le_refl _)).cell (fun h => h) (hM.cell hbs3 HB3.out))).mono ?_; rintro r w2 ⟨rfl, hL2, hm2⟩))
          have HL2 := Lib.hid hL2
          clear hL2
          go_ret
          rw [HEQ.out, eachS_err HT.out HF.out (by rw [turnA_some HE.out]; exact HZ.out), turnA_some HE.out]
          exact ⟨rfl, vk, HL2.out, HVK.out, FIN.out w1 _ hb1 HL2.out hm2⟩
    · obtain rfl : k = n := by omega
      have hnil : xs.drop k = [] := List.drop_eq_nil_of_le (by rw [HX.out]; exact Nat.le_refl _)
      have HN := Lib.hid hnil
      clear hnil
      go_wp2
      go_ret
      rw [HEQ.out, HN.out]
      exact ⟨rfl, vk, HLK.out, HVK.out, hM⟩

theorem ads_grow {w w1 : World} {S : Nat → Prop} {A : Option Addr} {n : Nat} {xs : List Int} (h : Ads w S A n xs) (hm : Mod S w w1) : Ads w1 S A n xs :=
  ⟨h.1, fun hn => by
    obtain ⟨ad, rfl, had, hc⟩ := h.2 hn
    exact ⟨ad, rfl, had, fun j t ht => hm.cellA (by rw [block_of_add]; exact had) (hc j t ht)⟩⟩
theorem ls_lt {w : World} {p base k : Nat} {v : Value} {es : List Ent} (h : Led w base p v es) (hk : LS p v k) : k < w.heap.size := by
  rcases hk with rfl | hk
  · exact h.lt
  · exact (h.2.2.lt k hk).2

set_option maxHeartbeats 1000000 in
theorem drop_any (p base n c : Nat) (A : Option Addr) (xs : List Int) (v : Value) (es : List Ent) (w : World) (hlen : es.length ≤ 1000000) (hs : Fit es) (hL : Led w base p v es)
    (hA : Ads w (LS p v) A n xs) (hn : n ≤ 9223372036854775807) :
    Calls Try.prog 19 #[.pointer (some ⟨p, 0, none⟩), .slice A n c] w fun r w' =>
      r = .returned (.int .i64 (eachS dropA es xs).1) ∧ ∃ v', Led w' base p v' (eachS dropA es xs).2 ∧ v'.ownBlock = v.ownBlock ∧ Mod (LS p v) w w' := by
  have hm : Mod (LS p v) w (w.alloc (.cells #[.pointer (some ⟨p, 0, none⟩)] 40)) := (Mod.refl _ w).alloc _
  have H := each_drop p base w.heap.size n c A xs v es (w.alloc (.cells #[.pointer (some ⟨p, 0, none⟩)] 40)) hlen hs (hL.box _) (ads_grow hA hm) hn (by simp)
    (fun h => by have := ls_lt hL h; omega)
  have HH := Lib.hid H
  have HM := Lib.hid hm
  clear H hm hA hL hs
  go_enter Try.func19, Try.ntmps19
  go_wp2_with (go_at_call 34; refine HH.out.mono ?_; rintro r w1 ⟨rfl, v', hL', hv', hm'⟩)
  go_ret
  exact ⟨rfl, v', hL', hv', HM.out.trans hm' (fun _ _ h => h)⟩

set_option maxHeartbeats 1000000 in
theorem turn_any (p base n c : Nat) (held : Bool) (no : Int) (A : Option Addr) (xs : List Int) (v : Value) (es : List Ent) (w : World) (hlen : es.length ≤ 1000000) (hs : Fit es) (hL : Led w base p v es)
    (hA : Ads w (LS p v) A n xs) (hn : n ≤ 9223372036854775807) :
    Calls Try.prog 30 #[.pointer (some ⟨p, 0, none⟩), .bool held, .int .i64 no, .slice A n c] w fun r w' =>
      r = .returned (.int .i64 (eachS (turnA held no) es xs).1) ∧ ∃ v', Led w' base p v' (eachS (turnA held no) es xs).2 ∧ v'.ownBlock = v.ownBlock ∧ Mod (LS p v) w w' := by
  have hm : Mod (LS p v) w (((w.alloc (.cells #[.pointer (some ⟨p, 0, none⟩)] 40)).alloc (.cells #[.bool held] 4)).alloc (.cells #[.int .i64 no] 45)) := (((Mod.refl _ w).alloc _).alloc _).alloc _
  have H := each_turn p base w.heap.size (w.heap.size + 1) (w.heap.size + 2) n c held no A xs v es (((w.alloc (.cells #[.pointer (some ⟨p, 0, none⟩)] 40)).alloc (.cells #[.bool held] 4)).alloc (.cells #[.int .i64 no] 45)) hlen hs
    (((hL.box _).box _).box _) (ads_grow hA hm) hn (by go_simp) (fun h => by have := ls_lt hL h; omega) (by go_simp) (fun h => by have := ls_lt hL h; omega) (by go_simp) (fun h => by have := ls_lt hL h; omega)
  have HH := Lib.hid H
  have HM := Lib.hid hm
  clear H hm hA hL hs
  go_enter Try.func30, Try.ntmps30
  go_wp2_with (go_at_call 34; refine HH.out.mono ?_; rintro r w1 ⟨rfl, v', hL', hv', hm'⟩)
  go_ret
  exact ⟨rfl, v', hL', hv', HM.out.trans hm' (fun _ _ h => h)⟩

def HoldPost (es : List Ent) (xs : List Int) (held : Bool) (no : Int) (p base : Nat) (v : Value) (w : World) (r : Ending) (w' : World) : Prop :=
  r = .returned (.int .i64 (eachS (turnA held no) es xs).1) ∧ ∃ v', Led w' base p v' (eachS (turnA held no) es xs).2 ∧ v'.ownBlock = v.ownBlock ∧ Mod (LS p v) w w'

theorem hold_any (p base n c : Nat) (A : Option Addr) (xs : List Int) (v : Value) (es : List Ent) (w : World) (hlen : es.length ≤ 1000000) (hs : Fit es) (hL : Led w base p v es)
    (hA : Ads w (LS p v) A n xs) (hn : n ≤ 9223372036854775807) : Calls Try.prog 15 #[.pointer (some ⟨p, 0, none⟩), .slice A n c] w (HoldPost es xs true 7 p base v w) := by
  have HH := Lib.hid (turn_any p base n c true 7 A xs v es w hlen hs hL hA hn)
  clear hA hL hs
  go_enter Try.func15, Try.ntmps15
  go_wp2_with (go_at_call 30; refine HH.out.mono ?_; rintro r w1 ⟨rfl, h⟩)
  go_ret
  exact ⟨rfl, h⟩
theorem let_any (p base n c : Nat) (A : Option Addr) (xs : List Int) (v : Value) (es : List Ent) (w : World) (hlen : es.length ≤ 1000000) (hs : Fit es) (hL : Led w base p v es)
    (hA : Ads w (LS p v) A n xs) (hn : n ≤ 9223372036854775807) : Calls Try.prog 14 #[.pointer (some ⟨p, 0, none⟩), .slice A n c] w (HoldPost es xs false 8 p base v w) := by
  have HH := Lib.hid (turn_any p base n c false 8 A xs v es w hlen hs hL hA hn)
  clear hA hL hs
  go_enter Try.func14, Try.ntmps14
  go_wp2_with (go_at_call 30; refine HH.out.mono ?_; rintro r w1 ⟨rfl, h⟩)
  go_ret
  exact ⟨rfl, h⟩
end Go.Proofs.Ytgkloacfickeaaa
