/- What slices that are handed in look like. -/
import Derived.Test.YtjcnaefgffnphaaLaw
import Derived.Deep.Slices
import Derived.Deep.Fields
import Derived.ProofKit
import Derived.OpenShut
import Derived.ChangeSlices
namespace Go.Proofs.Ytjcnaefgffnphaa
open Go.RowKit Go.ChangeShapes Go.WideShapes Go.ChangeAt
set_option linter.unusedVariables false

section
variable {H : Type} {enc : TypeId × Value → H} {w : World} {base : Nat} {spare : Nat → Bool} {held : Bool} {fuel : Nat} {cs : List Value} {x : DataW H × List MemPlace}
theorem list_of {α : Type} {p : Nat → α → Prop} (n : Nat) (h : ∀ i, i < n → ∃ v, p i v) : ∃ l : List α, l.length = n ∧ ∀ (k : Nat) (x : α), l[k]? = some x → p k x := by
  induction n with
  | zero => exact ⟨[], rfl, fun k x hx => by simp at hx⟩
  | succ n ih =>
    obtain ⟨l, hl, hp⟩ := ih (fun i hi => h i (by omega))
    obtain ⟨v, hv⟩ := h n (by omega)
    refine ⟨l ++ [v], by simp [hl], fun k x hx => ?_⟩
    by_cases hk : k < n
    · rw [List.getElem?_append_left (by omega)] at hx
      exact hp k x hx
    · rw [List.getElem?_append_right (by omega)] at hx
      have hk0 : k - l.length = 0 := by
        have := (List.getElem?_eq_some_iff.1 hx).1
        simp at this
        omega
      rw [hk0] at hx
      simp at hx
      subst hx
      have : k = n := by omega
      subst this
      exact hv

theorem open_bools (hd : DataW.trod enc Try.prog w base spare held fuel 32 cs = some x) :
    ∃ (A : Option Addr) (c : Nat) (bs : List Bool), cs = [.slice A bs.length c] ∧ bs.length ≤ c ∧ c ≤ maxLen ∧ Reads w w.heap.size 1 A bs.length (bs.map Value.bool) := by
  rcases Go.Deep.open_slice Try.underlying32 hd with ⟨rfl, _⟩ | ⟨a, len, cap, m, n, D, Pl, rfl, hb, hl, hm, hmm, _, hel⟩
  · exact ⟨none, 0, [], rfl, Nat.le_refl _, by unfold maxLen; omega, Reads.none_⟩
  · have hml : len ≤ m := by rw [hmm]; split <;> omega
    have h1 : Try.prog.cellsOf 4 = 1 := by kernel_rfl
    rw [h1] at hel
    obtain ⟨bs, hbl, hbs⟩ := list_of (p := fun i (b : Bool) => w.cell? (a.add i) = some (.bool b)) len (fun i hi => by
      obtain ⟨cs', h2, h3⟩ := hel i (by omega)
      obtain ⟨_, _, hat⟩ := World.cells?_some h2
      obtain ⟨b, e, _⟩ := DataW.trod_bool Try.underlying4 h3
      subst e
      refine ⟨b, ?_⟩
      have := hat 0 (by omega)
      rw [add_of_add] at this
      simpa using this)
    subst hbl
    refine ⟨some a, cap, bs, rfl, hl, hm, by simp, fun h0 => ⟨a, rfl, ?_, fun j u hu => ?_⟩⟩
    · have h2 : bs[0]? = some bs[0] := by simp [h0]
      have := World.block_lt_of_cell? w _ (hbs 0 _ h2)
      rwa [block_of_add] at this
    · rw [List.getElem?_map] at hu
      cases hx : bs[j]? with
      | none => rw [hx] at hu; cases hu
      | some b => rw [hx] at hu; cases hu; exact hbs j b hx
end
end Go.Proofs.Ytjcnaefgffnphaa
