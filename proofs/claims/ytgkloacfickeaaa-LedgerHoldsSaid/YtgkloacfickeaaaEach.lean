/- The ledger's each, Drop, turn, Hold and Let. -/
import Derived.Test.YtgkloacfickeaaaTurn
import Derived.Test.YtgkloacfickeaaaApp
namespace Go.Proofs.Ytgkloacfickeaaa
open Go.RowKit
set_option linter.unusedVariables false

theorem Mod.cell {S : Nat → Prop} {w w' : World} {b o : Nat} {u : Value} (h : Mod S w w') (hb : ¬ S b) (hc : w.cell? ⟨b, o, none⟩ = some u) : w'.cell? ⟨b, o, none⟩ = some u :=
  (World.cell?_of_block (h.block b (World.block_lt_of_cell? w _ hc) hb)).trans hc
theorem Mod.cellA {S : Nat → Prop} {w w' : World} {a : Addr} {u : Value} (h : Mod S w w') (hb : ¬ S a.block) (hc : w.cell? a = some u) : w'.cell? a = some u :=
  (World.cell?_of_block (h.block a.block (World.block_lt_of_cell? w _ hc) hb)).trans hc

/-- A slice of addresses that a call may read, outside the blocks of S. -/
def Ads (w : World) (S : Nat → Prop) (A : Option Addr) (n : Nat) (xs : List Int) : Prop :=
  xs.length = n ∧ (0 < n → ∃ ad, A = some ad ∧ ¬ S ad.block ∧ ∀ (j : Nat) (t : Int), xs[j]? = some t → w.cell? (ad.add j) = some (.int .u64 t))

/-- What is done with each of the entries that begin at some addresses, till one error. -/
def eachS (act : List Ent → Nat → Int × List Ent) : List Ent → List Int → Int × List Ent
  | es, [] => (0, es)
  | es, t :: l => if found es t = true then (if (act es (lb es t)).1 = 0 then eachS act (act es (lb es t)).2 l else act es (lb es t)) else (5, es)

def dropA (es : List Ent) (i : Nat) : Int × List Ent := (0, es.eraseIdx i)
def turnA (held : Bool) (no : Int) (es : List Ent) (i : Nat) : Int × List Ent :=
  match es[i]? with | some e => (turnE e held no, es.set i (e.turned held)) | none => (0, es)

theorem eachS_none {act : List Ent → Nat → Int × List Ent} {es : List Ent} {l : List Int} {k : Nat} {t : Int} (ht : l[k]? = some t) (hf : found es t = false) : eachS act es (l.drop k) = (5, es) := by
  obtain ⟨hk, rfl⟩ := List.getElem?_eq_some_iff.1 ht
  rw [List.drop_eq_getElem_cons hk, eachS, hf]; rfl
theorem eachS_go {act : List Ent → Nat → Int × List Ent} {es : List Ent} {l : List Int} {k : Nat} {t : Int} (ht : l[k]? = some t) (hf : found es t = true) (h0 : (act es (lb es t)).1 = 0) :
    eachS act es (l.drop k) = eachS act (act es (lb es t)).2 (l.drop (k + 1)) := by
  obtain ⟨hk, rfl⟩ := List.getElem?_eq_some_iff.1 ht
  rw [List.drop_eq_getElem_cons hk, eachS, if_pos hf, if_pos h0]
theorem eachS_err {act : List Ent → Nat → Int × List Ent} {es : List Ent} {l : List Int} {k : Nat} {t : Int} (ht : l[k]? = some t) (hf : found es t = true) (h0 : ¬ (act es (lb es t)).1 = 0) :
    eachS act es (l.drop k) = act es (lb es t) := by
  obtain ⟨hk, rfl⟩ := List.getElem?_eq_some_iff.1 ht
  rw [List.drop_eq_getElem_cons hk, eachS, if_pos hf, if_neg h0]

theorem fit_erase {es : List Ent} (h : Fit es) (i : Nat) : Fit (es.eraseIdx i) :=
  ⟨h.apart.sublist (List.eraseIdx_sublist ..), fun e he => h.each e (List.mem_of_mem_eraseIdx he)⟩
theorem fit_turn {es : List Ent} (h : Fit es) {i : Nat} {e : Ent} (he : es[i]? = some e) (held : Bool) : Fit (es.set i (e.turned held)) := by
  obtain ⟨hi, rfl⟩ := List.getElem?_eq_some_iff.1 he
  refine ⟨?_, fun x hx => ?_⟩
  · rw [List.pairwise_iff_getElem]
    intro a b ha hb hab
    have := List.pairwise_iff_getElem.1 h.apart a b (by simpa using ha) (by simpa using hb) hab
    rw [List.getElem_set, List.getElem_set]
    split <;> split <;> simp_all [Ent.turned]
  · rcases List.mem_or_eq_of_mem_set hx with hx | rfl
    · exact h.each x hx
    · exact h.each es[i] (List.getElem_mem hi)

set_option maxHeartbeats 2000000 in
theorem each_drop (p base bx n c : Nat) (A : Option Addr) (xs : List Int) (v : Value) (es : List Ent) (w : World) (hlen : es.length ≤ 1000000) (hs : Fit es) (hL : Led w base p v es)
    (hA : Ads w (LS p v) A n xs) (hn : n ≤ 9223372036854775807) (hb : w.cell? ⟨bx, 0, none⟩ = some (.pointer (some ⟨p, 0, none⟩))) (hbs : ¬ LS p v bx) :
    Calls Try.prog 34 #[.pointer (some ⟨p, 0, none⟩), .func (.func 35) #[] #[.pointer (some ⟨bx, 0, none⟩)], .slice A n c] w fun r w' =>
      r = .returned (.int .i64 (eachS dropA es xs).1) ∧ ∃ v', Led w' base p v' (eachS dropA es xs).2 ∧ v'.ownBlock = v.ownBlock ∧ Mod (LS p v) w w' := by
  have HX := Lib.hid hA.1
  have HA := Lib.hid hA.2
  have HL := Lib.hid hL
  have HB := Lib.hid hb
  have HS := Lib.hid hs
  clear hA hL hb hs
  go_enter Try.func34, Try.ntmps34
  go_wp2
  go_loopw [16] (fun i wr => ∃ (k : Nat) (vk : Value) (ek : List Ent), k ≤ n ∧ i = .int .i64 k ∧ eachS dropA es xs = eachS dropA ek (xs.drop k) ∧ Led wr base p vk ek ∧ vk.ownBlock = v.ownBlock ∧ Fit ek ∧ ek.length ≤ 1000000 ∧ Mod (LS p v) w wr)
    (fun i _ => n - (intOf i).toNat)
  case atStart => exact ⟨0, v, es, Nat.zero_le _, rfl, rfl, HL.out, rfl, HS.out, hlen, Mod.refl _ _⟩
  case round =>
    obtain ⟨k, vk, ek, hk, rfl, heq, hLk, hvk, hFk, hlk, hM⟩ := hrel
    have HEQ := Lib.hid heq
    have HLK := Lib.hid hLk
    have HVK := Lib.hid hvk
    have HFK := Lib.hid hFk
    clear heq hLk hvk hFk
    by_cases hlt : k < n
    · obtain ⟨ad, rfl, had, hcell⟩ := HA.out (by omega)
      obtain ⟨t, ht⟩ : ∃ t, xs[k]? = some t := ⟨xs[k]'(by rw [HX.out]; exact hlt), by simp⟩
      have hc := hM.cellA (by rw [block_of_add]; exact had) (hcell k t ht)
      have hkI : (k : Int) < n := by omega
      have HT := Lib.hid ht
      clear ht hcell had
      have H := place_any p base vk ek t wr hlk HFK.out.rising HLK.out
      cases hf : found ek t
      · rw [hf] at H
        have HH := Lib.hid H
        have HF := Lib.hid hf
        clear H hf
        go_wp2_with (go_at_call 28; refine HH.out.mono ?_; rintro r w1 ⟨rfl, hb1⟩)
        go_ret
        rw [HEQ.out, eachS_none HT.out HF.out]
        exact ⟨rfl, vk, HLK.out.below hb1 (Nat.le_refl _), HVK.out, hM.trans (Mod.of_below (S := fun _ => False) hb1 (Nat.le_refl _)) (fun _ _ h => h.elim)⟩
      · have hlb : lb ek t < ek.length := by
          obtain ⟨e, he, _⟩ := found_some hf
          exact (List.getElem?_eq_some_iff.1 he).1
        rw [hf] at H
        have HH := Lib.hid H
        have HF := Lib.hid hf
        clear H hf
        go_wp2_with (first | (go_at_call 28; refine HH.out.mono ?_; rintro r w1 ⟨rfl, hb1⟩) | (go_at_call 35; refine (drop1_any p base bx (lb ek t) vk ek _ hlk (HLK.out.below hb1 (Nat.le_refl _)) hlb (by exact (Mod.of_below (S := fun _ => False) hb1 (Nat.le_refl _)).cell (fun h => h) (hM.cell hbs HB.out)) (by rw [LS, HVK.out]; exact hbs)).mono ?_; rintro r w2 ⟨rfl, v2, hL2, hv2, hm2⟩))
        have HL2 := Lib.hid hL2
        have HV2 := Lib.hid hv2
        clear hL2 hv2
        go_roundw
        case rel =>
          refine ⟨k + 1, v2, ek.eraseIdx (lb ek t), by omega, by go_num, ?_, HL2.out, HV2.out.trans HVK.out, fit_erase HFK.out _, ?_, ?_⟩
          · rw [HEQ.out, eachS_go HT.out HF.out rfl]; rfl
          · rw [List.length_eraseIdx_of_lt hlb]; omega
          · refine (hM.trans (Mod.of_below (S := fun _ => False) hb1 (Nat.le_refl _)) (fun _ _ h => h.elim)).trans hm2 (fun i _ h => ?_)
            rwa [LS, HVK.out] at h
        case measure => simp [intOf]; omega
    · obtain rfl : k = n := by omega
      have hnil : xs.drop k = [] := List.drop_eq_nil_of_le (by rw [HX.out]; exact Nat.le_refl _)
      have HN := Lib.hid hnil
      clear hnil
      go_wp2
      go_ret
      rw [HEQ.out, HN.out]
      exact ⟨rfl, vk, HLK.out, HVK.out, hM⟩
end Go.Proofs.Ytgkloacfickeaaa
