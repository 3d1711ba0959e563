/- What was given, and is taken back, is given again: in plain words. -/
import Derived.Test.YtjcnaefgffnphaaApartLaw
namespace Go.Proofs.Ytjcnaefgffnphaa
set_option linter.unusedVariables false

/-- Does a row as long as one of some regions meet another one? -/
def meetsX (L : List Reg) (x : Reg) (q : Nat) : Bool := L.any fun r => decide (r ≠ x) && meetR q x.n r
theorem meetsX_snoc {L : List Reg} {j q : Nat} {x r : Reg} (h : L[j]? = some r) : meetsX (L.take (j + 1)) x q = (meetsX (L.take j) x q || (decide (r ≠ x) && meetR q x.n r)) := by
  unfold meetsX
  rw [List.take_add_one, h]; simp
theorem rising_inj {L : List Reg} (hs : Rising L) {i j : Nat} {x y : Reg} (hi : L[i]? = some x) (hj : L[j]? = some y) (h : x.a = y.a) : i = j := by
  rcases Nat.lt_trichotomy i j with h1 | h1 | h1
  · have := rising_lt hs hi hj h1; omega
  · exact h1
  · have := rising_lt hs hj hi h1; omega
theorem mem_erase {L : List Reg} (hs : Rising L) {i : Nat} {r y : Reg} (hi : L[i]? = some r) : y ∈ L.eraseIdx i ↔ y ∈ L ∧ y ≠ r := by
  constructor
  · intro h
    refine ⟨List.mem_of_mem_eraseIdx h, fun e => ?_⟩
    subst e
    rw [List.eraseIdx_eq_take_drop_succ, List.mem_append] at h
    rcases h with h | h
    · obtain ⟨k, hk⟩ := List.getElem?_of_mem h
      rw [List.getElem?_take] at hk
      split at hk
      · have := rising_inj hs hk hi rfl; omega
      · cases hk
    · obtain ⟨k, hk⟩ := List.getElem?_of_mem h
      rw [List.getElem?_drop] at hk
      have := rising_inj hs hk hi rfl; omega
  · exact fun h => mem_erase_of hi h.1 h.2
theorem meetsX_erase {L : List Reg} (hs : Rising L) {i : Nat} {r : Reg} (hi : L[i]? = some r) (q : Nat) : meetsX L r q = meets (L.eraseIdx i) q r.n := by
  unfold meetsX meets
  rw [Bool.eq_iff_iff, List.any_eq_true, List.any_eq_true]
  constructor
  · rintro ⟨y, hy, h⟩
    simp only [Bool.and_eq_true, decide_eq_true_eq] at h
    exact ⟨y, (mem_erase hs hi).2 ⟨hy, h.1⟩, h.2⟩
  · rintro ⟨y, hy, h⟩
    have := (mem_erase hs hi).1 hy
    exact ⟨y, this.1, by simp [this.2, h]⟩
theorem given_eraseIdx {L : List Reg} {i : Nat} {r : Reg} (h : L[i]? = some r) : given (L.eraseIdx i) + r.n = given L := by
  induction L generalizing i with
  | nil => simp at h
  | cons a L ih =>
    cases i with
    | zero => simp at h; subst h; simp [given]; omega
    | succ i =>
      have := ih (i := i) (by simpa using h)
      simp only [given, List.eraseIdx_cons_succ, List.map_cons, List.sum_cons] at this ⊢; omega
theorem found_iff {L : List Reg} (hs : Rising L) {t : Int} : found L t = true ↔ ∃ r ∈ L, (r.a : Int) = t := by
  constructor
  · intro h
    obtain ⟨r, h1, h2⟩ : ∃ r, L[lb L t]? = some r ∧ (r.a : Int) = t := by
      unfold found at h
      split at h
      · rename_i e he; exact ⟨e, he, by simpa using h⟩
      · cases h
    exact ⟨r, List.mem_of_getElem? h1, h2⟩
  · rintro ⟨r, hr, rfl⟩
    obtain ⟨k, hk⟩ := List.getElem?_of_mem hr
    have h : lb L (r.a : Int) = k := by
      refine lb_eq (Nat.le_of_lt (List.getElem?_eq_some_iff.1 hk).1) (fun j e hj hlt => ?_) (fun e he => ?_)
      · have := rising_lt hs hj hk hlt; omega
      · rw [hk] at he; cases he; exact Int.le_refl _
    unfold found
    rw [h, hk]; simp
theorem lb_is {L : List Reg} (hs : Rising L) {k : Nat} {r : Reg} (hk : L[k]? = some r) : lb L (r.a : Int) = k := by
  refine lb_eq (Nat.le_of_lt (List.getElem?_eq_some_iff.1 hk).1) (fun j e hj hlt => ?_) (fun e he => ?_)
  · have := rising_lt hs hj hk hlt; omega
  · rw [hk] at he; cases he; exact Int.le_refl _
section
variable {L : List Reg} {k rf : Nat} {r : Reg}
theorem back_in (hg : Good 64 L) (hk : L[k]? = some r) (hn : 1 < r.n) : relS ⟨64, 64, L, [], rf⟩ ((r.a : Int) + 1) = (5, ⟨64, 64, L, [], rf⟩) := by
  have : found L ((r.a : Int) + 1) = false := by
    rw [← Bool.not_eq_true, found_iff (good_rising hg)]
    rintro ⟨y, hy, e⟩
    obtain ⟨j, hj⟩ := List.getElem?_of_mem hy
    obtain ⟨a1, e1⟩ := List.getElem?_eq_some_iff.1 hk
    obtain ⟨a2, e2⟩ := List.getElem?_eq_some_iff.1 hj
    have hp := List.pairwise_iff_getElem.1 hg.1
    rcases Nat.lt_trichotomy j k with h | h | h
    · have := hp j k a2 a1 h; have := (hg.2 y hy).1; rw [e1, e2] at *; omega
    · subst h; rw [hk] at hj; cases hj; omega
    · have := hp k j a1 a2 h; rw [e1, e2] at this; omega
  unfold relS
  rw [if_neg (by simp only [this]; simp)]
theorem back_64 (hg : Good 64 L) : relS ⟨64, 64, L, [], rf⟩ 64 = (5, ⟨64, 64, L, [], rf⟩) := by
  have : found L 64 = false := by
    rw [← Bool.not_eq_true, found_iff (good_rising hg)]
    rintro ⟨y, hy, e⟩
    have := hg.2 y hy
    omega
  unfold relS
  rw [if_neg (by simp only [this]; simp)]
theorem back_yes (hg : Good 64 L) (hk : L[k]? = some r) : relS ⟨64, 64, L, [], rf⟩ (r.a : Int) = (0, ⟨64, 64, L.eraseIdx k, [], rf⟩) := by
  have h1 : found L (r.a : Int) = true := (found_iff (good_rising hg)).2 ⟨r, List.mem_of_getElem? hk, rfl⟩
  unfold relS
  rw [if_pos h1]
  simp only [lb_is (good_rising hg) hk]
theorem back_no (hg : Good 64 L) (hk : L[k]? = some r) : relS ⟨64, 64, L.eraseIdx k, [], rf⟩ (r.a : Int) = (5, ⟨64, 64, L.eraseIdx k, [], rf⟩) := by
  have : found (L.eraseIdx k) (r.a : Int) = false := by
    rw [← Bool.not_eq_true, found_iff (good_rising (good_erase hg))]
    rintro ⟨y, hy, e⟩
    have h := (mem_erase (good_rising hg) hk).1 hy
    obtain ⟨j, hj⟩ := List.getElem?_of_mem h.1
    have hjk := rising_inj (good_rising hg) hj hk (by omega)
    subst hjk
    rw [hk] at hj; cases hj
    exact h.2 rfl
  unfold relS
  rw [if_neg (by simp only [this]; simp)]
theorem back_free (hg : Good 64 L) (hk : L[k]? = some r) : FreeAt (cov (L.eraseIdx k)) 64 r.a r.n := by
  refine ⟨(hg.2 r (List.mem_of_getElem? hk)).2, fun q h1 h2 => ?_⟩
  rw [cov_erase hg hk]; unfold upd; rw [if_pos ⟨h1, h2⟩]
/-- It is given again, no higher; at the lowest place. -/
theorem back_again (hg : Good 64 L) (hk : L[k]? = some r) : ∃ q : Nat, resS ⟨64, 64, L.eraseIdx k, [], rf⟩ r.n = ((q : Int), 0, ⟨64, 64, putAt (L.eraseIdx k) (lb (L.eraseIdx k) q) ⟨q, r.n⟩, [], rf⟩) ∧ q ≤ r.a ∧
    meetsX L r q = false ∧ ∀ j, j < q → meetsX L r j = true := by
  have hg' : Good 64 (L.eraseIdx k) := good_erase hg
  have hr := hg.2 r (List.mem_of_getElem? hk)
  have hf := back_free hg hk
  cases hl : lowF (cov (L.eraseIdx k)) 64 r.n with
  | none =>
    exfalso
    unfold lowF at hl
    rw [List.find?_range_eq_none] at hl
    have := hl r.a (by omega)
    rw [freeAt_iff] at hf
    rw [hf] at this
    simp at this
  | some q =>
    have h1 := res_all (r := rf) hg' hr.1 (by omega)
    rw [hl] at h1
    have hlow : ∀ j, j < q → ¬ FreeAt (cov (L.eraseIdx k)) 64 j r.n := by
      intro j hj h
      unfold lowF at hl
      rw [List.find?_range_eq_some] at hl
      have := hl.2.2 j hj
      rw [freeAt_iff] at h
      rw [h] at this; simp at this
    have hq : q ≤ r.a := by
      rcases Nat.lt_or_ge r.a q with h | h
      · exact absurd hf (hlow r.a h)
      · exact h
    refine ⟨q, h1, hq, ?_, fun j hj => ?_⟩
    · rw [meetsX_erase (good_rising hg) hk]
      exact (free_meets hg' hr.1 (by omega)).1 (lowF_free hl)
    · rw [meetsX_erase (good_rising hg) hk]
      have := hlow j hj
      rw [free_meets hg' hr.1 (by omega)] at this
      simpa using this
end
end Go.Proofs.Ytjcnaefgffnphaa
