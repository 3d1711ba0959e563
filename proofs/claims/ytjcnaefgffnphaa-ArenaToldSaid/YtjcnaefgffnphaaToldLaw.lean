/- As often as it was told true it is refused: in plain words. -/
import Derived.Test.YtjcnaefgffnphaaLimitLaw
namespace Go.Proofs.Ytjcnaefgffnphaa
set_option linter.unusedVariables false

def cntT (bs : List Bool) : Nat := bs.count true
theorem cntT_snoc {bs : List Bool} {k : Nat} {x : Bool} (h : bs[k]? = some x) : cntT (bs.take (k + 1)) = cntT (bs.take k) + if x then 1 else 0 := by
  unfold cntT
  rw [List.take_add_one, h, List.count_append]
  cases x <;> simp
theorem cntT_le (bs : List Bool) (k : Nat) : cntT (bs.take k) ≤ k := by
  unfold cntT
  have := List.count_le_length (a := true) (l := bs.take k)
  have := List.length_take_le k bs
  omega
/-- The arena when k times are over. -/
def tolSt (bs : List Bool) (k : Nat) : St := ⟨64, 64, ones 0 (k - cntT (bs.take k)), bs.drop k, cntT (bs.take k)⟩
theorem one_more {m r : Nat} {ts : List Bool} (hm : m < 64) (ht : ts.headD false = false) : resS ⟨64, 64, ones 0 m, ts, r⟩ 1 = ((m : Int), 0, ⟨64, 64, ones 0 (m + 1), ts.tail, r⟩) := by
  have h := lim_res (n := 64) (k := 64) (i := m) (r := r) (by omega) hm
  unfold resS at h ⊢
  rw [if_neg (by simp), if_pos ⟨ht, by have := given_ones 0 m (by omega); simp only [this]; omega⟩]
  rw [if_neg (by simp), if_pos ⟨rfl, by have := given_ones 0 m (by omega); simp only [this]; omega⟩] at h
  simp only at h ⊢
  generalize lowF (cov (ones 0 m)) 64 (1 : Int).toNat = z at h ⊢
  cases z with
  | none => simp at h
  | some a =>
    simp only [Prod.mk.injEq, St.mk.injEq, true_and, and_true] at h ⊢
    exact ⟨h.1, h.2.1⟩
theorem tol_step {bs : List Bool} {k : Nat} {x : Bool} (hk : bs[k]? = some x) (h60 : k < 60) : resS (tolSt bs k) 1 = (if x then (0, 4, tolSt bs (k + 1)) else (((k - cntT (bs.take k) : Nat) : Int), 0, tolSt bs (k + 1))) := by
  have hle := cntT_le bs k
  have hs := cntT_snoc hk
  have hd : bs.drop k = x :: bs.drop (k + 1) := by
    obtain ⟨h, rfl⟩ := List.getElem?_eq_some_iff.1 hk
    exact List.drop_eq_getElem_cons h
  unfold tolSt
  rw [hd]
  cases x
  · rw [one_more (by omega) rfl]
    simp only [Bool.false_eq_true, if_false] at hs ⊢
    rw [hs, show k + 1 - (cntT (bs.take k) + 0) = k - cntT (bs.take k) + 1 by omega]
    rfl
  · unfold resS
    rw [if_neg (by simp), if_neg (by simp)]
    simp only [if_true] at hs ⊢
    rw [hs, show k + 1 - (cntT (bs.take k) + 1) = k - cntT (bs.take k) by omega]
    rfl
theorem tol_last {bs : List Bool} (h : bs.length ≤ 60) : resS (tolSt bs bs.length) 1 = (((bs.length - cntT bs : Nat) : Int), 0, ⟨64, 64, ones 0 (bs.length - cntT bs + 1), [], cntT bs⟩) := by
  unfold tolSt
  rw [List.take_length, List.drop_length, one_more (by omega) rfl]
  rfl
end Go.Proofs.Ytjcnaefgffnphaa
