/- Regions never meet, and never more than the limit: in plain words. -/
import Derived.Test.YtjcnaefgffnphaaLowLaw
namespace Go.Proofs.Ytjcnaefgffnphaa
set_option linter.unusedVariables false

theorem given_erase (L : List Reg) (i : Nat) : given (L.eraseIdx i) ≤ given L := by
  induction L generalizing i with
  | nil => simp
  | cons r L ih =>
    cases i with
    | zero => simp [given]
    | succ i => have := ih i; simp only [given, List.eraseIdx_cons_succ, List.map_cons, List.sum_cons] at this ⊢; omega
theorem res_shape (n k : Nat) (L : List Reg) (T : List Bool) (r : Nat) (m : Int) (hl : given L ≤ k) : ∃ a e L' T' r', resS ⟨n, k, L, T, r⟩ m = (a, e, ⟨n, k, L', T', r'⟩) ∧ given L' ≤ k ∧ r' ≤ r + 1 := by
  unfold resS
  split
  · exact ⟨_, _, _, _, _, rfl, hl, Nat.le_succ _⟩
  · rename_i hm
    split
    · rename_i hr
      split
      · refine ⟨_, _, _, _, _, rfl, ?_, Nat.le_succ _⟩
        rw [given_put]
        have := hr.2
        simp only at this ⊢
        omega
      · exact ⟨_, _, _, _, _, rfl, hl, Nat.le_refl _⟩
    · exact ⟨_, _, _, _, _, rfl, hl, Nat.le_refl _⟩
theorem rel_shape2 (n k : Nat) (L : List Reg) (T : List Bool) (r : Nat) (t : Int) (hl : given L ≤ k) : ∃ e L' T' r', relS ⟨n, k, L, T, r⟩ t = (e, ⟨n, k, L', T', r'⟩) ∧ given L' ≤ k ∧ r' ≤ r + 1 := by
  unfold relS
  split
  · exact ⟨_, _, _, _, rfl, Nat.le_trans (given_erase _ _) hl, Nat.le_succ _⟩
  · exact ⟨_, _, _, _, rfl, hl, Nat.le_succ _⟩
theorem rfs_shape (n k : Nat) (L : List Reg) (T : List Bool) (r : Nat) (l : List Bool) (hl : given L ≤ k) : ∃ e L' T' r', rfsS ⟨n, k, L, T, r⟩ l = (e, ⟨n, k, L', T', r'⟩) ∧ given L' ≤ k ∧ r' ≤ r + 1 := by
  unfold rfsS
  split
  · exact ⟨_, _, _, _, rfl, hl, Nat.le_succ _⟩
  · exact ⟨_, _, _, _, rfl, hl, Nat.le_succ _⟩
theorem given_snoc {L : List Reg} {t : Nat} {r : Reg} (h : L[t]? = some r) : given (L.take (t + 1)) = given (L.take t) + r.n := by
  unfold given
  rw [List.take_add_one, h]; simp
theorem given_take_le (L : List Reg) (t : Nat) : given (L.take t) ≤ given L := by
  unfold given
  conv => rhs; rw [← List.take_append_drop t L]
  rw [List.map_append, List.sum_append]
  omega
/-- Some place lies ahead of all regions from a number on. -/
def Ahead (L : List Reg) (t en : Nat) : Prop := ∀ j r, L[j]? = some r → t ≤ j → en ≤ r.a
theorem ahead_next {segs t : Nat} {L : List Reg} {r : Reg} (hg : Good segs L) (h : L[t]? = some r) : Ahead L (t + 1) (r.a + r.n) := by
  intro j y hj hle
  obtain ⟨a1, rfl⟩ := List.getElem?_eq_some_iff.1 h
  obtain ⟨a2, rfl⟩ := List.getElem?_eq_some_iff.1 hj
  exact List.pairwise_iff_getElem.1 hg.1 t j a1 a2 (by omega)
end Go.Proofs.Ytjcnaefgffnphaa
