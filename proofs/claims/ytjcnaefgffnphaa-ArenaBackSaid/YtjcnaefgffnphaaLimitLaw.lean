/- Under a limit: one by one, in plain words. -/
import Derived.Test.YtjcnaefgffnphaaSt
namespace Go.Proofs.Ytjcnaefgffnphaa
set_option linter.unusedVariables false

/-- Regions of one place each, from a to b. -/
def ones (a b : Nat) : List Reg := (List.range' a (b - a)).map fun i => ⟨i, 1⟩
theorem ones_nil (a : Nat) : ones a a = [] := by simp [ones]
theorem ones_snoc {a b : Nat} (h : a ≤ b) : ones a (b + 1) = ones a b ++ [⟨b, 1⟩] := by
  unfold ones
  rw [show b + 1 - a = (b - a) + 1 by omega, List.range'_concat]
  simp; omega
theorem ones_cons {a b : Nat} (h : a < b) : ones a b = ⟨a, 1⟩ :: ones (a + 1) b := by
  unfold ones
  rw [show b - a = (b - (a + 1)) + 1 by omega, List.range'_succ]
  simp
theorem mem_ones {a b : Nat} {r : Reg} : r ∈ ones a b ↔ a ≤ r.a ∧ r.a < b ∧ r.n = 1 := by
  unfold ones
  simp only [List.mem_map, List.mem_range']
  constructor
  · rintro ⟨x, ⟨i, hi, rfl⟩, rfl⟩; simp; omega
  · intro ⟨h1, h2, h3⟩
    obtain ⟨x, n⟩ := r
    simp at h1 h2 h3
    subst h3
    exact ⟨x, ⟨x - a, by omega, by omega⟩, rfl⟩
theorem given_ones (a b : Nat) (h : a ≤ b) : given (ones a b) = b - a := by
  induction b with
  | zero =>
    have h0 : a = 0 := by omega
    subst h0
    simp [ones_nil, given]
  | succ b ih =>
    by_cases hb : a ≤ b
    · rw [ones_snoc hb]
      have := ih hb
      unfold given at this ⊢
      rw [List.map_append, List.sum_append, this]
      simp; omega
    · obtain rfl : a = b + 1 := by omega
      simp [ones_nil, given]
theorem lb_last {L : List Reg} {t : Int} (h : ∀ r ∈ L, (r.a : Int) < t) : lb L t = L.length := by
  unfold lb
  rw [List.findIdx_eq_length]
  intro r hr
  have := h r hr
  simp; omega
theorem length_ones (a b : Nat) : (ones a b).length = b - a := by simp [ones]
theorem put_last (L : List Reg) (r : Reg) : putAt L L.length r = L ++ [r] := by simp [putAt]

theorem lim_res {n k i r : Nat} (hk : k ≤ n) (hi : i < k) : resS ⟨n, k, ones 0 i, [], r⟩ 1 = ((i : Int), 0, ⟨n, k, ones 0 (i + 1), [], r⟩) := by
  have hg := given_ones 0 i (by omega)
  have hl : lowF (cov (ones 0 i)) n 1 = some i := by
    refine lowF_some (by omega) ⟨by omega, fun q h1 h2 => cov_not.2 fun x hx hc => ?_⟩ (fun q hq h => ?_)
    · have := mem_ones.1 hx; omega
    · have h2 := h.2 q (Nat.le_refl _) (by omega)
      exact cov_not.1 h2 ⟨q, 1⟩ (mem_ones.2 ⟨by simp, hq, rfl⟩) ⟨Nat.le_refl _, by simp⟩
  unfold resS
  rw [if_neg (by simp; omega), if_pos ⟨rfl, by simp only [hg]; omega⟩]
  simp only [show (1 : Int).toNat = 1 from rfl, hl]
  rw [lb_last (fun x hx => by have := mem_ones.1 hx; omega), put_last, ones_snoc (Nat.zero_le _)]
  rfl
theorem lim_res_no {n k r : Nat} (hk : k ≤ n) (hn : 1 ≤ n) : resS ⟨n, k, ones 0 k, [], r⟩ 1 = (0, 4, ⟨n, k, ones 0 k, [], r + 1⟩) := by
  have hg := given_ones 0 k (by omega)
  unfold resS
  rw [if_neg (by simp; omega), if_neg (fun h => by have := h.2; simp only [hg] at this; omega)]
  rfl
theorem lim_rel {n k i r : Nat} (hi : i < k) : relS ⟨n, k, ones i k, [], r⟩ i = (0, ⟨n, k, ones (i + 1) k, [], r⟩) := by
  have h0 : lb (ones i k) (i : Int) = 0 := by rw [ones_cons hi]; simp [lb, List.findIdx_cons]
  have hf : found (ones i k) (i : Int) = true := by unfold found; rw [h0, ones_cons hi]; simp
  unfold relS
  simp only [hf, if_true, h0]
  rw [ones_cons hi]; rfl
end Go.Proofs.Ytjcnaefgffnphaa
