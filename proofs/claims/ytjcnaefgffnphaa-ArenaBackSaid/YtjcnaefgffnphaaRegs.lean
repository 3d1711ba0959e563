/- Regions, and the row that holds them. -/
import Derived.Test.YtjcnaefgffnphaaTold
namespace Go.Proofs.Ytjcnaefgffnphaa
open Go.RowKit
set_option linter.unusedVariables false

/-- A region: where, and how many. -/
structure Reg where
  a : Nat
  n : Nat
  deriving DecidableEq
def Reg.cells (r : Reg) : List Value := [.int .i64 (r.a : Int), .int .i64 (r.n : Int)]
def regs (rs : List Reg) : List Value := rs.flatMap Reg.cells
theorem length_regs (rs : List Reg) : (regs rs).length = rs.length * 2 := by
  induction rs with
  | nil => rfl
  | cons e es ih => simp [regs, Reg.cells] at ih ⊢; omega
theorem regs_append (a b : List Reg) : regs (a ++ b) = regs a ++ regs b := by simp [regs]
theorem take_regs (es : List Reg) (k : Nat) : (regs es).take (k * 2) = regs (es.take k) := by
  induction es generalizing k with
  | nil => simp [regs]
  | cons e es ih =>
    cases k with
    | zero => simp [regs]
    | succ k =>
      have := ih k
      simp only [regs, List.flatMap_cons, List.take_succ_cons] at this ⊢
      rw [Nat.succ_mul, List.take_append]
      simp only [Reg.cells, List.length_cons, List.length_nil]
      rw [List.take_of_length_le (by simp)]
      rw [show k * 2 + 2 - (0 + 1 + 1) = k * 2 from by omega]
      exact congrArg _ this
theorem drop_regs (es : List Reg) (k : Nat) : (regs es).drop (k * 2) = regs (es.drop k) := by
  induction es generalizing k with
  | nil => simp [regs]
  | cons e es ih =>
    cases k with
    | zero => simp [regs]
    | succ k =>
      have := ih k
      simp only [regs, List.flatMap_cons, List.drop_succ_cons] at this ⊢
      rw [Nat.succ_mul, List.drop_append]
      simp only [Reg.cells, List.length_cons, List.length_nil]
      rw [List.drop_eq_nil_of_le (by simp)]
      rw [show k * 2 + 2 - (0 + 1 + 1) = k * 2 from by omega]
      simpa using this
theorem getElem?_regs {es : List Reg} {k : Nat} {e : Reg} (h : es[k]? = some e) (j : Nat) (hj : j < 2) : (regs es)[k * 2 + j]? = e.cells[j]? := by
  have h1 : ((regs es).drop (k * 2))[j]? = (regs es)[k * 2 + j]? := by simp
  rw [← h1, drop_regs]
  obtain ⟨hk, rfl⟩ := List.getElem?_eq_some_iff.1 h
  rw [List.drop_eq_getElem_cons hk]
  simp only [regs, List.flatMap_cons]
  rw [List.getElem?_append_left (by simp [Reg.cells]; omega)]
theorem oneCell_regs (es : List Reg) : ∀ u ∈ regs es, u.oneCell' = true := by
  intro u hu
  simp only [regs, List.mem_flatMap] at hu
  obtain ⟨e, _, he⟩ := hu
  simp [Reg.cells] at he
  rcases he with rfl | rfl <;> rfl

/-- A slice value that owns regions. -/
def OwnR (w : World) (base : Nat) (v : Value) (es : List Reg) : Prop := w.ownsRow base 39 2 v es.length (regs es)
theorem OwnR.form {w : World} {base : Nat} {v : Value} {es : List Reg} (h : OwnR w base v es) : ∃ A c, v = .slice A es.length c ∧ es.length ≤ c ∧ c ≤ maxLen := own_form h
theorem OwnR.at {w : World} {base c : Nat} {A : Option Addr} {es : List Reg} (h : OwnR w base (.slice A es.length c) es) {k : Nat} {e : Reg} (he : es[k]? = some e) :
    ∃ g, A = some ⟨g, 0, none⟩ ∧ base ≤ g ∧ g < w.heap.size ∧ w.cell? ⟨g, k * 2, none⟩ = some (.int .i64 (e.a : Int)) ∧ w.cell? ⟨g, k * 2 + 1, none⟩ = some (.int .i64 (e.n : Int)) ∧ (∀ j, w.frozen? ⟨g, j, none⟩ = false) := by
  have hk : k < es.length := (List.getElem?_eq_some_iff.1 he).1
  obtain ⟨g, rfl, hb, hg, hc, hf⟩ := own_at h (by omega)
  refine ⟨g, rfl, hb, hg, ?_, ?_, hf⟩
  · exact (hc (k * 2) (by omega)).trans (getElem?_regs he 0 (by omega))
  · exact (hc (k * 2 + 1) (by omega)).trans (getElem?_regs he 1 (by omega))
theorem OwnR.mod {w w' : World} {base : Nat} {v : Value} {es : List Reg} {S : Nat → Prop} (h : OwnR w base v es) (hm : Mod S w w') (hS : ∀ k, v.ownBlock = some k → ¬ S k) : OwnR w' base v es :=
  own_mod h hm hS
theorem OwnR.lt {w : World} {base : Nat} {v : Value} {es : List Reg} (h : OwnR w base v es) : ∀ k, v.ownBlock = some k → base ≤ k ∧ k < w.heap.size := World.ownsRow.lt h
end Go.Proofs.Ytjcnaefgffnphaa
