/- A ledger beside a row of blocks and one block's own cells: what each method leaves of the three. -/
import Derived.Test.YtgkloacfickeaaaHoldsLaw
import Derived.Test.YtgkloacfickeaaaFilled
namespace Go.Proofs.Ytgkloacfickeaaa
open Go.RowKit
set_option linter.unusedVariables false

/-- The ledger over es; a block's own cells at b9; a row u of the blocks that were told first. -/
structure St (W : World) (base p b9 b0 : Nat) (u : Value) (a n al : Int) (es0 es : List Ent) : Prop where
  led : ∃ v, Led W base p v es
  box : W.heap[b9]? = some (.cells #[.int .u64 a, .int .u64 n, .int .u64 al] 35 (0, 0))
  own : W.ownsRow b0 35 3 u es0.length (blks es0)

section
variable {W W' : World} {base p b9 b0 B : Nat} {u v : Value} {a n al : Int} {es0 es : List Ent}
theorem Led.not35 (hL : Led W base p v es) {k : Nat} {cs : Array Value} (hk : W.heap[k]? = some (.cells cs 35 (0, 0))) : ¬ LS p v k := by
  intro h
  have h1 : ∃ cs t, W.heap[k]? = some (.cells cs t (0, 0)) ∧ (t = 27 ∨ t = 55) := by
    rcases h with rfl | h
    · exact ⟨_, _, hL.2.1, .inl rfl⟩
    · obtain ⟨_, _, cs, hc⟩ := own_type hL.2.2 h
      exact ⟨cs, 55, hc, .inr rfl⟩
  obtain ⟨_, t, h1, ht⟩ := h1
  rw [hk] at h1
  simp only [Option.some.injEq, Obj.cells.injEq] at h1
  obtain ⟨_, rfl, _⟩ := h1
  rcases ht with h | h <;> exact absurd h (by decide)
theorem St.lt (h : St W base p b9 b0 u a n al es0 es) : b9 < W.heap.size := (Array.getElem?_eq_some_iff.1 h.box).1
theorem St.base_le (h : St W base p b9 b0 u a n al es0 es) : base ≤ W.heap.size := by
  obtain ⟨v, hL⟩ := h.led
  exact Nat.le_of_lt (Nat.lt_of_le_of_lt hL.1 hL.lt)
theorem St.cells (h : St W base p b9 b0 u a n al es0 es) : W.cell? ⟨b9, 0, none⟩ = some (.int .u64 a) ∧ W.cell? ⟨b9, 1, none⟩ = some (.int .u64 n) ∧ W.cell? ⟨b9, 2, none⟩ = some (.int .u64 al) := by
  have := h.box
  simp [World.cell?, this]
theorem St.below (h : St W base p b9 b0 u a n al es0 es) (hb : Below B W W') (hB : W.heap.size ≤ B) : St W' base p b9 b0 u a n al es0 es := by
  obtain ⟨v, hL⟩ := h.led
  exact ⟨⟨v, hL.below hb hB⟩, (hb.block b9 (Nat.lt_of_lt_of_le h.lt hB)).trans h.box, own_mod (S := fun _ => False) h.own (Mod.of_below hb hB) (fun _ _ h => h)⟩
theorem St.modled (h : St W base p b9 b0 u a n al es0 es) (hL : Led W base p v es) (hm : Mod (LS p v) W W') {es' : List Ent} {v' : Value} (hL' : Led W' base p v' es') : St W' base p b9 b0 u a n al es0 es' :=
  ⟨⟨v', hL'⟩, (hm.block b9 h.lt (hL.not35 h.box)).trans h.box, own_mod h.own hm (fun k hk => by
    obtain ⟨_, _, cs, hc⟩ := own_type h.own hk
    exact hL.not35 hc)⟩
theorem St.box_ (h : St W base p b9 b0 u a n al es0 es) (o : Obj) : St (W.alloc o) base p b9 b0 u a n al es0 es := h.below ((Below.refl _ W).alloc (Nat.le_refl _) o) (Nat.le_refl _)

/-- Calls on one address that a fresh row of one holds. -/
def OneCall (f : Nat) (es es' : List Ent) (r : Int) (p base b9 b0 : Nat) (u : Value) (a n al : Int) (es0 : List Ent) : Prop :=
  ∀ W : World, St W base p b9 b0 u a n al es0 es → Calls Try.prog f #[.pointer (some ⟨p, 0, none⟩), .slice (some ⟨W.heap.size, 0, none⟩) 1 1] (W.alloc (.cells #[.int .u64 a] 33)) fun e w' =>
    e = .returned (.int .i64 r) ∧ St w' base p b9 b0 u a n al es0 es' ∧ Below base W w'
theorem one_let {i : Nat} {e : Ent} (hs : Fit es) (hle : es.length ≤ 100) (he : es[i]? = some e) (ha : e.a = a) : OneCall 14 es (es.set i (e.turned false)) (turnE e false 8) p base b9 b0 u a n al es0 := by
  intro W hS
  obtain ⟨v, hL⟩ := hS.led
  refine (let_any p base 1 1 _ [a] v es _ (by omega) hs (hL.box _) (ads_one hL) (by omega)).mono fun r w' k => ?_
  unfold HoldPost at k
  subst ha
  rw [turn_hit hs.rising he] at k
  obtain ⟨k1, v', k2, _, k3⟩ := k
  exact ⟨k1, (hS.box_ _).modled (hL.box _) k3 k2, ((Below.refl _ W).alloc hS.base_le _).trans ((hL.box _).below_mod k3)⟩
theorem one_hold {i : Nat} {e : Ent} (hs : Fit es) (hle : es.length ≤ 100) (he : es[i]? = some e) (ha : e.a = a) : OneCall 15 es (es.set i (e.turned true)) (turnE e true 7) p base b9 b0 u a n al es0 := by
  intro W hS
  obtain ⟨v, hL⟩ := hS.led
  refine (hold_any p base 1 1 _ [a] v es _ (by omega) hs (hL.box _) (ads_one hL) (by omega)).mono fun r w' k => ?_
  unfold HoldPost at k
  subst ha
  rw [turn_hit hs.rising he] at k
  obtain ⟨k1, v', k2, _, k3⟩ := k
  exact ⟨k1, (hS.box_ _).modled (hL.box _) k3 k2, ((Below.refl _ W).alloc hS.base_le _).trans ((hL.box _).below_mod k3)⟩
theorem one_drop {es' : List Ent} {r : Int} (hs : Fit es) (hle : es.length ≤ 100) (he : eachS dropA es [a] = (r, es')) : OneCall 19 es es' r p base b9 b0 u a n al es0 := by
  intro W hS
  obtain ⟨v, hL⟩ := hS.led
  refine (drop_any p base 1 1 _ [a] v es _ (by omega) hs (hL.box _) (ads_one hL) (by omega)).mono fun r w' k => ?_
  rw [he] at k
  obtain ⟨k1, v', k2, _, k3⟩ := k
  exact ⟨k1, (hS.box_ _).modled (hL.box _) k3 k2, ((Below.refl _ W).alloc hS.base_le _).trans ((hL.box _).below_mod k3)⟩
theorem st_add {es' : List Ent} {r : Int} (hs : Fit es) (hle : es.length ≤ 100) (he : addS es a n al = (r, es')) (hS : St W base p b9 b0 u a n al es0 es)
    (a0 : 0 ≤ a) (a1 : a ≤ 18446744073709551615) (n0 : 0 ≤ n) (n1 : n ≤ 18446744073709551615) (l0 : 0 ≤ al) (l1 : al ≤ 18446744073709551615) :
    Calls Try.prog 18 #[.pointer (some ⟨p, 0, none⟩), .agg #[.int .u64 a, .int .u64 n, .int .u64 al]] W fun e w' => e = .returned (.int .i64 r) ∧ St w' base p b9 b0 u a n al es0 es' ∧ Below base W w' := by
  obtain ⟨v, hL⟩ := hS.led
  refine (add_any p base v es a n al W (by omega) hs hL a0 a1 n0 n1 l0 l1).mono fun r w' k => ?_
  rw [he] at k
  obtain ⟨k1, v', k2, k3, _⟩ := k
  exact ⟨k1, hS.modled hL k3 k2, hL.below_mod k3⟩
theorem st_at {o : Option Ent} (hs : Fit es) (hle : es.length ≤ 100) (he : atO es a = o) (hS : St W base p b9 b0 u a n al es0 es) :
    Calls Try.prog 13 #[.pointer (some ⟨p, 0, none⟩), .int .u64 a] W fun e w' => e = .returned (.tuple #[.agg #[.int .u64 (tA o), .int .u64 (tN o), .int .u64 (tL o)], .int .i64 (tE o)]) ∧ St w' base p b9 b0 u a n al es0 es ∧ Below base W w' := by
  obtain ⟨v, hL⟩ := hS.led
  refine (at_any p base v es a W (by omega) hs.rising hL).mono fun r w' k => ?_
  rw [he] at k
  exact ⟨k.1, hS.below k.2 (Nat.le_refl _), k.2.mono hS.base_le⟩
theorem st_in {o : Option Ent} (hs : Fit es) (hle : es.length ≤ 100) (he : inO es a = o) (hS : St W base p b9 b0 u a n al es0 es) :
    Calls Try.prog 16 #[.pointer (some ⟨p, 0, none⟩), .int .u64 a] W fun e w' => e = .returned (.tuple #[.agg #[.int .u64 (tA o), .int .u64 (tN o), .int .u64 (tL o)], .int .i64 (tE o)]) ∧ St w' base p b9 b0 u a n al es0 es ∧ Below base W w' := by
  obtain ⟨v, hL⟩ := hS.led
  refine (in_any p base v es a W (by omega) hs hL).mono fun r w' k => ?_
  rw [he] at k
  exact ⟨k.1, hS.below k.2 (Nat.le_refl _), k.2.mono hS.base_le⟩
theorem st_free {b : Bool} {m : Int} (hs : Fit es) (hle : es.length ≤ 100) (he : freeB es a m = b) (hS : St W base p b9 b0 u a n al es0 es) (a0 : 0 ≤ a) (a1 : a ≤ 18446744073709551615) (n0 : 0 ≤ m) (n1 : m ≤ 18446744073709551615) :
    Calls Try.prog 17 #[.pointer (some ⟨p, 0, none⟩), .int .u64 a, .int .u64 m] W fun e w' => e = .returned (.bool b) ∧ St w' base p b9 b0 u a n al es0 es ∧ Below base W w' := by
  obtain ⟨v, hL⟩ := hS.led
  refine (free_any p base v es a m W (by omega) hs hL a0 a1 n0 n1).mono fun r w' k => ?_
  rw [he] at k
  exact ⟨k.1, hS.below k.2 (Nat.le_refl _), k.2.mono hS.base_le⟩
theorem st_all (hle : es.length ≤ 100) (hS : St W base p b9 b0 u a n al es0 es) :
    Calls Try.prog 9 #[.pointer (some ⟨p, 0, none⟩)] W fun e w' => (∃ A c, e = .returned (.slice A es.length c) ∧ w'.ownsRow W.heap.size 35 3 (.slice A es.length c) es.length (blks es)) ∧ St w' base p b9 b0 u a n al es0 es ∧ Below base W w' := by
  obtain ⟨v, hL⟩ := hS.led
  refine (all_any p base v es W (by omega) hL).mono fun r w' k => ?_
  obtain ⟨u', k1, k2, k3⟩ := k
  obtain ⟨A, c, rfl, _, _⟩ := own_form k2
  exact ⟨⟨A, c, k1, k2⟩, hS.below k3 (Nat.le_refl _), k3.mono hS.base_le⟩
end
end Go.Proofs.Ytgkloacfickeaaa
