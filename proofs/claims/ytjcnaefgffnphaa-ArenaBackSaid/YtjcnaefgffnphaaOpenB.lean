/- Bytes that are handed in. -/
import Derived.Test.YtjcnaefgffnphaaOpen
import Derived.Test.YtjcnaefgffnphaaBack
namespace Go.Proofs.Ytjcnaefgffnphaa
open Go.RowKit Go.ChangeShapes Go.WideShapes Go.ChangeAt
set_option linter.unusedVariables false
section
variable {H : Type} {enc : TypeId × Value → H} {w : World} {base : Nat} {spare : Nat → Bool} {held : Bool} {fuel : Nat} {x : DataW H × List MemPlace}
theorem open_u8s {A : Option Addr} {len cap : Nat} (hd : DataW.trod enc Try.prog w base spare held fuel 35 (Value.slice A len cap).cells.toList = some x) :
    ∃ zs, len ≤ 9223372036854775807 ∧ Bytes w A len zs := by
  simp only [Value.cells] at hd
  rcases Go.Deep.open_slice Try.underlying35 hd with ⟨h0, _⟩ | ⟨a, len', cap', m, n, D, Pl, h0, hb, hl, hm, hmm, _, hel⟩
  · simp at h0
    obtain ⟨rfl, rfl, rfl⟩ := h0
    exact ⟨[], by omega, rfl, by simp, fun h => by omega⟩
  · simp at h0
    obtain ⟨rfl, rfl, rfl⟩ := h0
    unfold maxLen at hm
    have hml : len ≤ m := by rw [hmm]; split <;> omega
    have h1 : Try.prog.cellsOf 5 = 1 := by kernel_rfl
    rw [h1] at hel
    obtain ⟨zs, hzl, hzs⟩ := list_of (p := fun i (z : Nat) => z ≤ 255 ∧ w.cell? (a.add i) = some (.int .u8 (z : Int))) len (fun i hi => by
      obtain ⟨cs', h2, h3⟩ := hel i (by omega)
      obtain ⟨_, _, hat⟩ := World.cells?_some h2
      obtain ⟨b, e, _, wb⟩ := DataW.trod_int Try.underlying5 h3
      subst e
      have hbb := bounds_u8 wb
      obtain ⟨z, rfl⟩ := Int.eq_ofNat_of_zero_le hbb.1
      refine ⟨z, by omega, ?_⟩
      have := hat 0 (by omega)
      rw [add_of_add] at this
      simpa using this)
    refine ⟨zs, by omega, hzl, fun z hz => ?_, fun h => ⟨a, rfl, ?_, fun k z hz => (hzs k z hz).2⟩⟩
    · obtain ⟨k, hk⟩ := List.getElem?_of_mem hz
      exact (hzs k z hk).1
    · have h2 : zs[0]? = some zs[0] := by simp [hzl, h]
      have := World.block_lt_of_cell? w _ (hzs 0 _ h2).2
      rwa [block_of_add] at this
end
end Go.Proofs.Ytjcnaefgffnphaa
