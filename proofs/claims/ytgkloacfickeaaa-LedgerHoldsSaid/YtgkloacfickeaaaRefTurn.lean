/- The reference's Hold and Let. -/
import Derived.Test.YtgkloacfickeaaaRefMay
import Derived.Test.YtgkloacfickeaaaAdd
namespace Go.Proofs.Ytgkloacfickeaaa
open Go.RowKit
set_option linter.unusedVariables false

/-- What is done with the entry that begins at an address. -/
def oneS (act : List Ent → Nat → Int × List Ent) (es : List Ent) (t : Int) : Int × List Ent := if found es t = true then act es (lb es t) else (5, es)

theorem helds_set {es : List Ent} {i : Nat} (e : Ent) (held : Bool) : (helds es).set i (.bool held) = helds (es.set i (e.turned held)) := by
  unfold helds
  rw [List.map_set]
  rfl
theorem blks_turned {es : List Ent} {i : Nat} {e : Ent} (he : es[i]? = some e) (held : Bool) : blks (es.set i (e.turned held)) = blks es := by
  obtain ⟨hi, rfl⟩ := List.getElem?_eq_some_iff.1 he
  have h1 : es = es.take i ++ es[i] :: es.drop (i + 1) := by simp
  have h2 : es.set i (es[i].turned held) = es.take i ++ es[i].turned held :: es.drop (i + 1) := by
    rw [List.set_eq_take_append_cons_drop, if_pos hi]
  rw [h2]
  conv => rhs; rw [h1]
  simp only [blks, List.flatMap_append, List.flatMap_cons]
  rfl
theorem atI_found {es : List Ent} {t : Int} (h : found es t = true) : atI es t = (lb es t : Int) := by unfold atI; rw [if_pos h]
theorem atI_none {es : List Ent} {t : Int} (h : found es t = false) : atI es t = -1 := by unfold atI; rw [h]; rfl

theorem ref_turn {q base g c i : Nat} {vL : Value} {es : List Ent} {e : Ent} {w : World} (held : Bool) (hR : Ref w base q vL (.slice (some ⟨g, 0, none⟩) es.length c) es) (he : es[i]? = some e) :
    Ref (w.setCell ⟨g, i, none⟩ (.bool held)) base q vL (.slice (some ⟨g, 0, none⟩) es.length c) (es.set i (e.turned held)) ∧
      Mod (RS q vL (.slice (some ⟨g, 0, none⟩) es.length c)) w (w.setCell ⟨g, i, none⟩ (.bool held)) := by
  have hm : Mod (RS q vL (.slice (some ⟨g, 0, none⟩) es.length c)) w (w.setCell ⟨g, i, none⟩ (.bool held)) := (Mod.refl _ w).setCell (p := ⟨g, i, none⟩) (fun _ => .inr (.inr rfl)) _
  refine ⟨⟨hR.1, ?_, ?_, ?_⟩, hm⟩
  · rw [heap_setCell_other w ⟨g, i, none⟩ q _ (fun h => hR.neH (by simp [Value.ownBlock]; exact h.symm))]
    exact hR.2.1
  · rw [List.length_set, blks_turned he]
    refine own_mod (S := fun k => k = g) hR.2.2.1 ((Mod.refl (fun k => k = g) w).setCell (p := ⟨g, i, none⟩) (fun _ => rfl) _) ?_
    rintro k hk rfl
    rcases hR.2.2.2.2 with ⟨h, _⟩ | ⟨g', cap, cur, h, _, hgg, _⟩
    · simp at h
    · simp only [Value.slice.injEq, Option.some.injEq, Addr.mk.injEq, and_true, true_and] at h
      obtain ⟨rfl, rfl⟩ := h
      exact own_ne_of_type hR.2.2.1 hgg (by omega) hk
  · have := (World.ownsRow.stored hR.2.2.2 i (.bool held)).1
    rw [List.length_set, ← helds_set e]
    exact this

/-- What a call on the reference's ledger leaves. -/
def RefPost (r : Int × List Ent) (q base : Nat) (vL vH : Value) (w : World) (e : Ending) (w' : World) : Prop :=
  e = .returned (.int .i64 r.1) ∧ ∃ vL' vH', Ref w' base q vL' vH' r.2 ∧ Mod (RS q vL vH) w w'

set_option maxHeartbeats 2000000 in
theorem rhold_any (q base : Nat) (vL vH : Value) (es : List Ent) (t : Int) (w : World) (hlen : es.length ≤ 1000000) (hs : Fit es) (hR : Ref w base q vL vH es) :
    Calls Try.prog 22 #[.pointer (some ⟨q, 0, none⟩), .int .u64 t] w (RefPost (oneS (turnA true 7) es t) q base vL vH w) := by
  cases hf : found es t
  · have hr : oneS (turnA true 7) es t = (5, es) := by unfold oneS; rw [hf]; rfl
    rw [hr]
    have HI := Lib.hid (atI_none hf)
    have HR := Lib.hid hR
    have HS := Lib.hid hs
    clear hr hf hR hs
    go_enter Try.func22, Try.ntmps22
    go_wp2_with (go_at_call 37; refine (rat_any q base vL vH es t w hlen HS.out.rising HR.out).mono ?_; rintro r w1 ⟨rfl, hb1⟩; rw [HI.out])
    go_ret
    exact ⟨rfl, vL, vH, HR.out.below hb1 (Nat.le_refl _), Mod.of_below hb1 (Nat.le_refl _)⟩
  · obtain ⟨e, he, _⟩ := found_some hf
    have hr : oneS (turnA true 7) es t = (turnE e true 7, es.set (lb es t) (e.turned true)) := by unfold oneS; rw [hf, if_pos rfl, turnA_some he]
    rw [hr]
    obtain ⟨A, c, rfl, _, _⟩ := own_form hR.2.2.2
    have HI := Lib.hid (atI_found hf)
    obtain ⟨i, hi⟩ : ∃ i, lb es t = i := ⟨_, rfl⟩
    rw [hi] at he HI ⊢
    have hil : (i : Int) < es.length := by have := (List.getElem?_eq_some_iff.1 he).1; omega
    have HR := Lib.hid hR
    have HS := Lib.hid hs
    have HE := Lib.hid he
    clear hr hf hi
    obtain ⟨ea, en, el, eh⟩ := e
    by_cases heq : eh = true
    · subst heq
      have HT : Hid (es.set i (Ent.turned ⟨ea, en, el, true⟩ true) = es) := Lib.hid (by
        obtain ⟨hk, hh⟩ := List.getElem?_eq_some_iff.1 he
        conv => rhs; rw [← List.set_getElem_self hk, hh]
        rfl)
      clear he hR hs
      go_enter Try.func22, Try.ntmps22
      go_wp2_with (go_at_call 37; refine (rat_any q base vL _ es t w hlen HS.out.rising HR.out).mono ?_; rintro r w1 ⟨rfl, hb1⟩; rw [HI.out]; obtain ⟨g, rfl, hg, hgc, hgf⟩ := (HR.out.below hb1 (Nat.le_refl _)).heldAt HE.out; have hc1 := (HR.out.below hb1 (Nat.le_refl _)).cell1)
      go_ret
      exact ⟨rfl, vL, _, by rw [HT.out]; exact HR.out.below hb1 (Nat.le_refl _), Mod.of_below hb1 (Nat.le_refl _)⟩
    · obtain rfl : eh = false := by simpa using heq
      clear he hR hs heq
      go_enter Try.func22, Try.ntmps22
      go_wp2_with (go_at_call 37; refine (rat_any q base vL _ es t w hlen HS.out.rising HR.out).mono ?_; rintro r w1 ⟨rfl, hb1⟩; rw [HI.out]; obtain ⟨g, rfl, hg, hgc, hgf⟩ := (HR.out.below hb1 (Nat.le_refl _)).heldAt HE.out; have hc1 := (HR.out.below hb1 (Nat.le_refl _)).cell1)
      go_ret
      have h := ref_turn true (HR.out.below hb1 (Nat.le_refl _)) HE.out
      exact ⟨rfl, vL, _, h.1, (Mod.of_below (S := RS q vL _) hb1 (Nat.le_refl _)).trans h.2 (fun _ _ h => h)⟩

set_option maxHeartbeats 2000000 in
theorem rlet_any (q base : Nat) (vL vH : Value) (es : List Ent) (t : Int) (w : World) (hlen : es.length ≤ 1000000) (hs : Fit es) (hR : Ref w base q vL vH es) :
    Calls Try.prog 23 #[.pointer (some ⟨q, 0, none⟩), .int .u64 t] w (RefPost (oneS (turnA false 8) es t) q base vL vH w) := by
  cases hf : found es t
  · have hr : oneS (turnA false 8) es t = (5, es) := by unfold oneS; rw [hf]; rfl
    rw [hr]
    have HI := Lib.hid (atI_none hf)
    have HR := Lib.hid hR
    have HS := Lib.hid hs
    clear hr hf hR hs
    go_enter Try.func23, Try.ntmps23
    go_wp2_with (go_at_call 37; refine (rat_any q base vL vH es t w hlen HS.out.rising HR.out).mono ?_; rintro r w1 ⟨rfl, hb1⟩; rw [HI.out])
    go_ret
    exact ⟨rfl, vL, vH, HR.out.below hb1 (Nat.le_refl _), Mod.of_below hb1 (Nat.le_refl _)⟩
  · obtain ⟨e, he, _⟩ := found_some hf
    have hr : oneS (turnA false 8) es t = (turnE e false 8, es.set (lb es t) (e.turned false)) := by unfold oneS; rw [hf, if_pos rfl, turnA_some he]
    rw [hr]
    obtain ⟨A, c, rfl, _, _⟩ := own_form hR.2.2.2
    have HI := Lib.hid (atI_found hf)
    obtain ⟨i, hi⟩ : ∃ i, lb es t = i := ⟨_, rfl⟩
    rw [hi] at he HI ⊢
    have hil : (i : Int) < es.length := by have := (List.getElem?_eq_some_iff.1 he).1; omega
    have HR := Lib.hid hR
    have HS := Lib.hid hs
    have HE := Lib.hid he
    clear hr hf hi
    obtain ⟨ea, en, el, eh⟩ := e
    by_cases heq : eh = false
    · subst heq
      have HT : Hid (es.set i (Ent.turned ⟨ea, en, el, false⟩ false) = es) := Lib.hid (by
        obtain ⟨hk, hh⟩ := List.getElem?_eq_some_iff.1 he
        conv => rhs; rw [← List.set_getElem_self hk, hh]
        rfl)
      clear he hR hs
      go_enter Try.func23, Try.ntmps23
      go_wp2_with (go_at_call 37; refine (rat_any q base vL _ es t w hlen HS.out.rising HR.out).mono ?_; rintro r w1 ⟨rfl, hb1⟩; rw [HI.out]; obtain ⟨g, rfl, hg, hgc, hgf⟩ := (HR.out.below hb1 (Nat.le_refl _)).heldAt HE.out; have hc1 := (HR.out.below hb1 (Nat.le_refl _)).cell1)
      go_ret
      exact ⟨rfl, vL, _, by rw [HT.out]; exact HR.out.below hb1 (Nat.le_refl _), Mod.of_below hb1 (Nat.le_refl _)⟩
    · obtain rfl : eh = true := by simpa using heq
      clear he hR hs heq
      go_enter Try.func23, Try.ntmps23
      go_wp2_with (go_at_call 37; refine (rat_any q base vL _ es t w hlen HS.out.rising HR.out).mono ?_; rintro r w1 ⟨rfl, hb1⟩; rw [HI.out]; obtain ⟨g, rfl, hg, hgc, hgf⟩ := (HR.out.below hb1 (Nat.le_refl _)).heldAt HE.out; have hc1 := (HR.out.below hb1 (Nat.le_refl _)).cell1)
      go_ret
      have h := ref_turn false (HR.out.below hb1 (Nat.le_refl _)) HE.out
      exact ⟨rfl, vL, _, h.1, (Mod.of_below (S := RS q vL _) hb1 (Nat.le_refl _)).trans h.2 (fun _ _ h => h)⟩
end Go.Proofs.Ytgkloacfickeaaa
