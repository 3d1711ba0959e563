/- The closure of the ledger's turn. -/
import Derived.Test.YtgkloacfickeaaaDrop
namespace Go.Proofs.Ytgkloacfickeaaa
open Go.RowKit
set_option linter.unusedVariables false

def Ent.turned (e : Ent) (held : Bool) : Ent := { e with h := held }
def turnE (e : Ent) (held : Bool) (no : Int) : Int := if e.h = held then no else 0

theorem ents_set {es : List Ent} {i : Nat} {e : Ent} (he : es[i]? = some e) (held : Bool) : (ents es).set (i * 4 + 3) (.bool held) = ents (es.set i (e.turned held)) := by
  obtain ⟨hi, rfl⟩ := List.getElem?_eq_some_iff.1 he
  have h1 : es = es.take i ++ es[i] :: es.drop (i + 1) := by simp
  have h2 : es.set i (es[i].turned held) = es.take i ++ es[i].turned held :: es.drop (i + 1) := by
    rw [List.set_eq_take_append_cons_drop, if_pos hi]
  rw [h2]
  conv => lhs; rw [h1]
  simp only [ents, List.flatMap_append, List.flatMap_cons]
  have hl : (List.flatMap Ent.cells (es.take i)).length = i * 4 := by have := length_ents (es.take i); simp only [ents] at this; rw [this]; simp; omega
  rw [List.set_append_right _ _ (by omega), hl, show i * 4 + 3 - i * 4 = 3 from by omega]
  simp [Ent.cells, Ent.turned]

theorem led_turn {p base g c i : Nat} {es : List Ent} {e : Ent} {w : World} (held : Bool) (hL : Led w base p (.slice (some ⟨g, 0, none⟩) es.length c) es) (he : es[i]? = some e) :
    Led (w.setCell ⟨g, i * 4 + 3, none⟩ (.bool held)) base p (.slice (some ⟨g, 0, none⟩) es.length c) (es.set i (e.turned held)) ∧
      Mod (LS p (.slice (some ⟨g, 0, none⟩) es.length c)) w (w.setCell ⟨g, i * 4 + 3, none⟩ (.bool held)) := by
  have hm : Mod (LS p (.slice (some ⟨g, 0, none⟩) es.length c)) w (w.setCell ⟨g, i * 4 + 3, none⟩ (.bool held)) := (Mod.refl _ w).setCell (p := ⟨g, i * 4 + 3, none⟩) (fun _ => .inr rfl) _
  refine ⟨⟨hL.1, ?_, ?_⟩, hm⟩
  · rw [heap_setCell_other w ⟨g, i * 4 + 3, none⟩ p _ (fun h => hL.ne (by simp [Value.ownBlock]; exact h.symm))]
    exact hL.2.1
  · have := (World.ownsRow.stored hL.2.2 (i * 4 + 3) (.bool held)).1
    unfold OwnE
    rw [List.length_set, ← ents_set he]
    exact this

theorem ld_drewN {p base n : Nat} {v : Value} {es : List Ent} {w w1 : World} {S : Nat → Prop} (hL : Led w1 base p v es) (hm : Mod S w w1) : Led (w1.drewN n) base p v es ∧ Mod S w (w1.drewN n) :=
  ⟨⟨hL.1, hL.2.1, hL.2.2⟩, ⟨hm.os, hm.tape, hm.output, hm.size, hm.block⟩⟩

theorem ld_drewN_set {p base n : Nat} {v u : Value} {a : Addr} {es : List Ent} {w : World} {S : Nat → Prop} (h : Led (w.setCell a u) base p v es ∧ Mod S w (w.setCell a u)) :
    Led ((w.drewN n).setCell a u) base p v es ∧ Mod S w ((w.drewN n).setCell a u) :=
  ⟨⟨h.1.1, h.1.2.1, h.1.2.2⟩, ⟨h.2.os, h.2.tape, h.2.output, h.2.size, h.2.block⟩⟩

set_option maxHeartbeats 2000000 in
theorem turn1_any (p base bx by_ bz i : Nat) (held : Bool) (no : Int) (v : Value) (es : List Ent) (e : Ent) (w : World) (hlen : es.length ≤ 1000000) (hL : Led w base p v es) (he : es[i]? = some e)
    (hb : w.cell? ⟨bx, 0, none⟩ = some (.pointer (some ⟨p, 0, none⟩))) (hb2 : w.cell? ⟨by_, 0, none⟩ = some (.bool held)) (hb3 : w.cell? ⟨bz, 0, none⟩ = some (.int .i64 no)) :
    Calls Try.prog 44 #[.int .i64 i, .pointer (some ⟨bx, 0, none⟩), .pointer (some ⟨by_, 0, none⟩), .pointer (some ⟨bz, 0, none⟩)] w fun r w' =>
      r = .returned (.int .i64 (turnE e held no)) ∧ Led w' base p v (es.set i (e.turned held)) ∧ Mod (LS p v) w w' := by
  obtain ⟨A, c, rfl, hnc, hcm⟩ := hL.2.2.form
  have hcell := hL.cell
  obtain ⟨g, rfl, _, hg, h0, h1, h2, h3, hfz⟩ := hL.2.2.at he
  have hf3 := hfz (i * 4 + 3)
  have hi : (i : Int) < es.length := by have := (List.getElem?_eq_some_iff.1 he).1; omega
  have hi' : i < es.length := by omega
  have HT := Lib.hid (led_turn held hL he)
  have HL := Lib.hid hL
  have HE := Lib.hid he
  obtain ⟨ea, en, el, eh⟩ := e
  dsimp only at h0 h1 h2 h3
  clear hL he hfz
  by_cases heq : eh = held
  · subst heq
    have hset : es.set i (Ent.turned ⟨ea, en, el, eh⟩ eh) = es := by
      obtain ⟨hi, hx⟩ := List.getElem?_eq_some_iff.1 HE.out
      show es.set i ⟨ea, en, el, eh⟩ = es
      rw [← hx]
      exact List.set_getElem_self hi
    rw [hset]
    clear hset HT
    go_enter Try.func44, Try.ntmps44
    go_wp2
    go_quiet (fail)
    go_wp2
    go_ret
    exact ⟨ret_int (by simp [turnE]), ld_drewN HL.out (Mod.refl _ w)⟩
  · have hbe : (eh == held) = false := by simpa using heq
    have hr : turnE ⟨ea, en, el, eh⟩ held no = 0 := by simp [turnE, heq]
    rw [hr]
    clear hr
    go_enter Try.func44, Try.ntmps44
    go_wp2
    go_quiet (fail)
    go_wp2
    go_region
    all_goals go_wp2
    all_goals go_ret
    all_goals exact ⟨rfl, ld_drewN_set HT.out⟩
end Go.Proofs.Ytgkloacfickeaaa
