/- The reference's rows: what appends of copies leave. -/
import Derived.Test.YtgkloacfickeaaaRefTurn
namespace Go.Proofs.Ytgkloacfickeaaa
open Go.RowKit
set_option linter.unusedVariables false

theorem info4 : (Try.prog.info? 4).map (fun i => (i.zero, i.size, i.bytes)) = some (some (.bool false), 1, 1) := by kernel_rfl

/-- A fresh row of no elements. -/
theorem own_fresh {w : World} {base e size : Nat} (h : base ≤ w.heap.size) : (w.alloc (.cells #[] e)).ownsRow base e size (.slice (some ⟨w.heap.size, 0, none⟩) 0 0) 0 [] :=
  own_of_block (heap_alloc_new w _) h (Nat.le_refl _) (by unfold maxLen; omega) (by simp) (by simp) (by simp)

theorem oneCell_blks (es : List Ent) : ∀ u ∈ blks es, u.oneCell' = true := by
  intro u hu
  simp only [blks, List.mem_flatMap, Ent.blk] at hu
  obtain ⟨e, _, hu⟩ := hu
  simp at hu
  rcases hu with rfl | rfl | rfl <;> rfl
/-- A block's cell behind what is laid or grown elsewhere. -/
theorem keep_alloc {w : World} {q j : Nat} (hq : q < w.heap.size) (o : Obj) : (w.alloc o).drew.cell? ⟨q, j, none⟩ = w.cell? ⟨q, j, none⟩ ∧ (w.alloc o).drew.frozen? ⟨q, j, none⟩ = w.frozen? ⟨q, j, none⟩ := by
  have h : (w.alloc o).drew.heap[q]? = w.heap[q]? := Below.heap_alloc w o q hq
  simp [World.cell?, World.frozen?, h]
theorem keep_grown {w w' : World} {q j : Nat} {r : Option Nat} (hq : q < w.heap.size) (hg : w.grownBy w' r) (hr : r ≠ some q) : w'.cell? ⟨q, j, none⟩ = w.cell? ⟨q, j, none⟩ ∧ w'.frozen? ⟨q, j, none⟩ = w.frozen? ⟨q, j, none⟩ := by
  have h := hg.block q hq (fun h => hr h.symm)
  simp [World.cell?, World.frozen?, h]

/-- The reference's ledger amid a change: its two rows need not fit. -/
def RefP (w : World) (base q : Nat) (vL vH : Value) (n : Nat) (xs : List Value) (m : Nat) (ys : List Value) : Prop :=
  base ≤ q ∧ w.heap[q]? = some (.cells #[vL, vH] 32 (0, 0)) ∧ w.ownsRow base 35 3 vL n xs ∧ w.ownsRow base 4 1 vH m ys
/-- A post that speaks of the plain end alone. -/
def AtEnd (R : Act → World → Prop) : Exit → Act → World → Prop
  | .normal, a, w => R a w
  | _, _, _ => False
theorem AtEnd.imp {R : Act → World → Prop} {Q : Exit → Act → World → Prop} (h : ∀ a w, R a w → Q .normal a w) : ∀ e a w, AtEnd R e a w → Q e a w := fun e a w k => by
  cases e <;> first | exact h a w k | exact (k : False).elim
theorem refp_store0 {w1 w3 : World} {base q n n' m : Nat} {vL vH v' : Value} {xs xs' ys : List Value} (h : RefP w1 base q vL vH n xs m ys) (hm : Mod (fun _ => False) w1 w3) (ho : w3.ownsRow base 35 3 v' n' xs') :
    RefP (w3.setCell ⟨q, 0, none⟩ v') base q v' vH n' xs' m ys ∧ Mod (fun k => k = q) w1 (w3.setCell ⟨q, 0, none⟩ v') := by
  have hq : q < w1.heap.size := (Array.getElem?_eq_some_iff.1 h.2.1).1
  have hq3 : w3.heap[q]? = some (.cells #[vL, vH] 32 (0, 0)) := (hm.block q hq (fun h => h)).trans h.2.1
  have hm' : Mod (fun k => k = q) w3 (w3.setCell ⟨q, 0, none⟩ v') := (Mod.refl (fun k => k = q) w3).setCell (p := ⟨q, 0, none⟩) (fun _ => rfl) v'
  have hmq : Mod (fun k => k = q) w1 w3 := hm.mono (fun _ _ h => h.elim)
  refine ⟨⟨h.1, heap_setCell_same w3 q 0 #[vL, vH] 32 v' hq3, own_mod ho hm' (fun k hk e => own_ne_of_type ho hq3 (by omega) (e ▸ hk)), own_mod h.2.2.2 (hmq.trans hm' (fun _ _ h => h)) (fun k hk e => own_ne_of_type h.2.2.2 h.2.1 (by omega) (e ▸ hk))⟩, hmq.trans hm' (fun _ _ h => h)⟩
theorem refp_store1 {w1 w3 : World} {base q n n' m : Nat} {vL vH v' : Value} {xs xs' ys : List Value} (h : RefP w1 base q vL vH m ys n xs) (hm : Mod (fun _ => False) w1 w3) (ho : w3.ownsRow base 4 1 v' n' xs') :
    RefP (w3.setCell ⟨q, 1, none⟩ v') base q vL v' m ys n' xs' ∧ Mod (fun k => k = q) w1 (w3.setCell ⟨q, 1, none⟩ v') := by
  have hq : q < w1.heap.size := (Array.getElem?_eq_some_iff.1 h.2.1).1
  have hq3 : w3.heap[q]? = some (.cells #[vL, vH] 32 (0, 0)) := (hm.block q hq (fun h => h)).trans h.2.1
  have hm' : Mod (fun k => k = q) w3 (w3.setCell ⟨q, 1, none⟩ v') := (Mod.refl (fun k => k = q) w3).setCell (p := ⟨q, 1, none⟩) (fun _ => rfl) v'
  have hmq : Mod (fun k => k = q) w1 w3 := hm.mono (fun _ _ h => h.elim)
  refine ⟨⟨h.1, heap_setCell_same w3 q 1 #[vL, vH] 32 v' hq3, own_mod h.2.2.1 (hmq.trans hm' (fun _ _ h => h)) (fun k hk e => own_ne_of_type h.2.2.1 h.2.1 (by omega) (e ▸ hk)), own_mod ho hm' (fun k hk e => own_ne_of_type ho hq3 (by omega) (e ▸ hk))⟩, hmq.trans hm' (fun _ _ h => h)⟩
theorem own_cap {w : World} {base : Nat} {e : TypeId} {size n c : Nat} {A : Option Addr} {xs : List Value} (h : w.ownsRow base e size (.slice A n c) n xs) : n ≤ c ∧ c ≤ maxLen := by
  obtain ⟨A', c', hv, h1, h2⟩ := own_form h
  simp only [Value.slice.injEq] at hv
  obtain ⟨_, _, rfl⟩ := hv
  exact ⟨h1, h2⟩
theorem own_prefix_any {w : World} {base : Nat} {e : TypeId} {size n cap k : Nat} {A : Option Addr} {xs : List Value} (h : w.ownsRow base e size (.slice A n cap) n xs) (hk : k ≤ n) :
    Reads w w.heap.size size A k (xs.take (k * size)) := by
  have hr := Reads.of_own h
  refine ⟨?_, fun h0 => ?_⟩
  · rw [List.length_take, hr.1]
    exact Nat.min_eq_left (Nat.mul_le_mul_right _ hk)
  · obtain ⟨ad, e, hb, hc⟩ := hr.2 (by omega)
    exact ⟨ad, e, hb, fun j u hu => hc j u (by rw [List.getElem?_take] at hu; split at hu <;> simp_all)⟩


theorem blks_append (a b : List Ent) : blks (a ++ b) = blks a ++ blks b := by simp [blks]
theorem take_blks (es : List Ent) (k : Nat) : (blks es).take (k * 3) = blks (es.take k) := by
  by_cases hk : k ≤ es.length
  · conv => lhs; rw [← List.take_append_drop k es, blks_append]
    rw [List.take_append_of_le_length (by rw [length_blks, List.length_take]; omega), List.take_of_length_le (by rw [length_blks, List.length_take]; omega)]
  · rw [List.take_of_length_le (by rw [length_blks]; omega), List.take_of_length_le (by omega)]
theorem drop_blks (es : List Ent) (k : Nat) : (blks es).drop (k * 3) = blks (es.drop k) := by
  by_cases hk : k ≤ es.length
  · conv => lhs; rw [← List.take_append_drop k es, blks_append]
    have h : k * 3 = (blks (es.take k)).length := by rw [length_blks, List.length_take]; omega
    rw [h, List.drop_left]
  · rw [List.drop_eq_nil_of_le (by rw [length_blks]; omega), List.drop_eq_nil_of_le (by omega)]
    rfl
theorem oneCell_helds (es : List Ent) : ∀ u ∈ helds es, u.oneCell' = true := by
  intro u hu
  simp only [helds, List.mem_map] at hu
  obtain ⟨e, _, rfl⟩ := hu
  rfl
theorem length_helds (es : List Ent) : (helds es).length = es.length := by simp [helds]
theorem blks_erase (es : List Ent) (i : Nat) : (blks es).take (i * 3) ++ (blks es).drop ((i + 1) * 3) = blks (es.eraseIdx i) := by
  rw [take_blks, drop_blks, ← blks_append, ← List.eraseIdx_eq_take_drop_succ]
theorem helds_erase (es : List Ent) (i : Nat) : (helds es).take i ++ (helds es).drop (i + 1) = helds (es.eraseIdx i) := by
  unfold helds
  rw [← List.map_take, ← List.map_drop, ← List.map_append, ← List.eraseIdx_eq_take_drop_succ]
theorem blks_put (es : List Ent) (i : Nat) (e : Ent) : (blks es).take (i * 3) ++ e.blk ++ (blks es).drop (i * 3) = blks (putAt es i e) := by
  unfold putAt
  rw [take_blks, drop_blks, blks_append, List.append_assoc]
  rfl
theorem helds_put (es : List Ent) (i : Nat) (e : Ent) : (helds es).take i ++ [.bool e.h] ++ (helds es).drop i = helds (putAt es i e) := by
  unfold putAt helds
  rw [← List.map_take, ← List.map_drop, List.map_append, List.append_assoc]
  rfl
end Go.Proofs.Ytgkloacfickeaaa
