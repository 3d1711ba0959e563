/- The ledger's Drop, its closure, and each. -/
import Derived.Test.YtgkloacfickeaaaDelete
import Derived.Deep.RegionWith
import Derived.Deep.RegionHeld3
namespace Go.Proofs.Ytgkloacfickeaaa
open Go.RowKit
set_option linter.unusedVariables false

/-- The blocks of a ledger: its own one, its row's. -/
def LS (p : Nat) (v : Value) (k : Nat) : Prop := k = p ∨ v.ownBlock = some k

theorem undrew {w w1 : World} {g : Option Nat} (h : w.drew.grownBy w1 g) : w.grownBy w1 g := ⟨h.os, h.tape, h.output, h.size, h.block⟩
theorem led_store {p base : Nat} {v v' : Value} {es' : List Ent} {w w1 : World} (hbp : base ≤ p) (hp : w.heap[p]? = some (.cells #[v] 27 (0, 0))) (hg : w.grownBy w1 v.ownBlock) (hn : v.ownBlock ≠ some p)
    (ho : OwnE w1 base v' es') (hn' : v'.ownBlock ≠ some p) : Led (w1.setCell ⟨p, 0, none⟩ v') base p v' es' ∧ Mod (LS p v) w (w1.setCell ⟨p, 0, none⟩ v') := by
  have hpz : p < w.heap.size := (Array.getElem?_eq_some_iff.1 hp).1
  have hp1 : w1.heap[p]? = some (.cells #[v] 27 (0, 0)) := (hg.block p hpz (fun h => hn h.symm)).trans hp
  refine ⟨⟨hbp, heap_setCell_same w1 p 0 #[v] 27 v' hp1, ho.mod (S := fun k => k = p) ((Mod.refl (fun k => k = p) w1).setCell (p := ⟨p, 0, none⟩) (fun _ => rfl) v') (fun k hk h => hn' (h ▸ hk))⟩, ?_⟩
  exact ((Mod.refl (LS p v) w).grown hg (fun k hk _ => .inr hk)).setCell (p := ⟨p, 0, none⟩) (fun _ => .inl rfl) v'

set_option maxHeartbeats 2000000 in
theorem drop1_any (p base bx i : Nat) (v : Value) (es : List Ent) (w : World) (hlen : es.length ≤ 1000000) (hL : Led w base p v es) (hi : i < es.length) (hb : w.cell? ⟨bx, 0, none⟩ = some (.pointer (some ⟨p, 0, none⟩))) (hbs : ¬ LS p v bx) :
    Calls Try.prog 35 #[.int .i64 i, .pointer (some ⟨bx, 0, none⟩)] w fun r w' => r = .returned (.int .i64 0) ∧ ∃ v', Led w' base p v' (es.eraseIdx i) ∧ v'.ownBlock = v.ownBlock ∧ Mod (LS p v) w w' := by
  obtain ⟨A, c, rfl, hnc, hcm⟩ := hL.2.2.form
  have hcell := hL.cell
  have hfr := hL.frozen
  have hne := hL.ne
  have hpz := hL.lt
  have hbp := hL.1
  have hown : OwnE w.drew base (.slice A es.length c) es := hL.2.2
  have HO := Lib.hid hown
  have HP := Lib.hid hL.2.1
  have HN := Lib.hid hne
  have HBS := Lib.hid hbs
  clear hown hL hne hbs
  unfold maxLen at hcm
  have hwr : IntKind.i64.wrap ((i : Int) + 1) = (i : Int) + 1 := IntWalk.i64_in _ (by omega)
  go_enter Try.func35, Try.ntmps35
  go_wp2
  go_region_with (go_at_call 36; (with_reducible refine (delete_any es A c base i _ hlen HO.out hi).mono ?_); rintro r w1 ⟨v', rfl, ho, hg, hvb⟩; obtain ⟨A', c', rfl, _, _⟩ := ho.form; have hbc : w1.cell? ⟨bx, 0, none⟩ = some (.pointer (some ⟨p, 0, none⟩)) := (hg.cell (a := ⟨bx, 0, none⟩) hb (fun h => HBS.out (.inr h.symm))); have hpc : w1.cell? ⟨p, 0, none⟩ = some (.slice A es.length c) := (hg.cell (a := ⟨p, 0, none⟩) hcell (fun h => HN.out h.symm)); have hpf : w1.frozen? ⟨p, 0, none⟩ = false := (World.frozen?_of_block (hg.block p hpz (fun h => HN.out h.symm))).trans hfr)
  all_goals
    have HF := Lib.hid (led_store (w := w) (w1 := w1) hbp HP.out (undrew hg) HN.out ho (hvb ▸ HN.out))
    have HV := Lib.hid hvb
    clear ho hg hvb
    go_wp2
    go_ret
    exact ⟨rfl, _, HF.out.1, HV.out, HF.out.2⟩
end Go.Proofs.Ytgkloacfickeaaa
