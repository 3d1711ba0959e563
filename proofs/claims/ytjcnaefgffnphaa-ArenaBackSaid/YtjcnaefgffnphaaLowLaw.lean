/- A region stands as low as it can: in plain words. -/
import Derived.Test.YtjcnaefgffnphaaSt
namespace Go.Proofs.Ytjcnaefgffnphaa
set_option linter.unusedVariables false

/-- Does a row meet one of some regions? -/
def meetR (q n : Nat) (r : Reg) : Bool := decide (q < r.a + r.n) && decide (r.a < q + n)
def meets (L : List Reg) (q n : Nat) : Bool := L.any (meetR q n)
theorem meets_snoc {L : List Reg} {j q n : Nat} {r : Reg} (h : L[j]? = some r) : meets (L.take (j + 1)) q n = (meets (L.take j) q n || meetR q n r) := by
  unfold meets
  rw [List.take_add_one, h]
  simp
theorem free_meets {segs q n : Nat} {L : List Reg} (hg : Good segs L) (hn : 0 < n) (hq : q + n ≤ segs) : FreeAt (cov L) segs q n ↔ meets L q n = false := by
  unfold meets
  rw [← Bool.not_eq_true, List.any_eq_true]
  constructor
  · rintro ⟨_, h⟩ ⟨r, hr, hm⟩
    simp only [meetR, Bool.and_eq_true, decide_eq_true_eq] at hm
    have hg1 := hg.2 r hr
    have h2 := h (max q r.a) (by omega) (by omega)
    exact cov_not.1 h2 r hr ⟨by omega, by omega⟩
  · intro h
    refine ⟨hq, fun j h1 h2 => cov_not.2 fun r hr hc => h ⟨r, hr, ?_⟩⟩
    simp only [meetR, Bool.and_eq_true, decide_eq_true_eq]
    omega
theorem given_put (L : List Reg) (i : Nat) (r : Reg) : given (putAt L i r) = given L + r.n := by
  unfold given putAt
  have h := List.take_append_drop i L
  conv => rhs; rw [← h]
  simp only [List.map_append, List.map_cons, List.sum_append, List.sum_cons]
  omega
theorem room_of_low {segs a n : Nat} {L : List Reg} (hg : Good segs L) (hn : 0 < n) (h : lowF (cov L) segs n = some a) : given L + n ≤ segs := by
  have h1 := given_le (good_put hg hn (lowF_free h))
  rw [given_put] at h1
  exact h1
/-- With all segments to give, and nothing told, it is given wherever there is a place. -/
theorem res_all {segs n : Nat} {L : List Reg} {r : Nat} (hg : Good segs L) (hn : 0 < n) (hs : n ≤ segs) :
    resS ⟨segs, segs, L, [], r⟩ n = match lowF (cov L) segs n with
      | some a => ((a : Int), 0, ⟨segs, segs, putAt L (lb L a) ⟨a, n⟩, [], r⟩)
      | none => (0, 4, ⟨segs, segs, L, [], r + 1⟩) := by
  unfold resS
  rw [if_neg (by simp; omega)]
  cases h : lowF (cov L) segs n with
  | some a =>
    have := room_of_low hg hn h
    rw [if_pos ⟨rfl, by simp only; omega⟩]
    simp only [Int.toNat_natCast, h]
    rfl
  | none =>
    split
    · simp only [Int.toNat_natCast, h]; rfl
    · rfl
theorem low_is {segs q n : Nat} {L : List Reg} (hg : Good segs L) (hn : 0 < n) (hq : q + n ≤ segs) (hm : meets L q n = false) (hl : ∀ j, j < q → meets L j n = true) : lowF (cov L) segs n = some q :=
  lowF_some hn ((free_meets hg hn hq).2 hm) (fun j hj h => by have := (free_meets hg hn (by omega)).1 h; rw [hl j hj] at this; cases this)
theorem low_not {segs q n : Nat} {L : List Reg} (hg : Good segs L) (hn : 0 < n) (hq : segs < q + n) (hl : ∀ j, j < q → meets L j n = true) : lowF (cov L) segs n = none :=
  lowF_none (fun j hj h => by
    have h1 := h.1
    have := (free_meets hg hn h1).1 h
    rw [hl j (by omega)] at this; cases this)
end Go.Proofs.Ytjcnaefgffnphaa
