/- Places that are taken or free: plain words, no program. -/
namespace Go.Proofs.Ytjcnaefgffnphaa

/-- Of the first k places, how many are free. -/
def freeC (f : Nat → Bool) : Nat → Nat
  | 0 => 0
  | k + 1 => freeC f k + if f k then 0 else 1
/-- Some places have one state. -/
def upd (f : Nat → Bool) (a r : Nat) (b : Bool) : Nat → Bool := fun j => if a ≤ j ∧ j < a + r then b else f j

theorem freeC_le (f : Nat → Bool) (k : Nat) : freeC f k ≤ k := by
  induction k with
  | zero => simp [freeC]
  | succ k ih => unfold freeC; split <;> omega
theorem freeC_congr {f g : Nat → Bool} {n : Nat} (h : ∀ j, j < n → f j = g j) : freeC f n = freeC g n := by
  induction n with
  | zero => rfl
  | succ k ih => unfold freeC; rw [ih (fun j hj => h j (by omega)), h k (by omega)]
theorem freeC_true {f : Nat → Bool} {a r : Nat} (h : ∀ j, a ≤ j → j < a + r → f j = false) (k : Nat) : freeC (upd f a r true) k + (min k (a + r) - min k a) = freeC f k := by
  induction k with
  | zero => simp [freeC]
  | succ k ih =>
    unfold freeC upd
    unfold upd at ih
    by_cases hk : a ≤ k ∧ k < a + r
    · rw [if_pos hk, h k hk.1 hk.2, if_pos rfl, if_neg (by simp)]; omega
    · rw [if_neg hk]; split <;> omega
theorem freeC_false {f : Nat → Bool} {a r : Nat} (h : ∀ j, a ≤ j → j < a + r → f j = true) (k : Nat) : freeC (upd f a r false) k = freeC f k + (min k (a + r) - min k a) := by
  induction k with
  | zero => simp [freeC]
  | succ k ih =>
    unfold freeC upd
    unfold upd at ih
    by_cases hk : a ≤ k ∧ k < a + r
    · rw [if_pos hk, h k hk.1 hk.2, if_pos rfl, if_neg (by simp)]; omega
    · rw [if_neg hk]; split <;> omega
theorem freeC_all (n : Nat) : freeC (fun _ => false) n = n := by
  induction n with
  | zero => rfl
  | succ k ih => unfold freeC; simp [ih]

/-- The first of some places that is in a state, or -1. -/
def idxI (f : Nat → Bool) (b : Bool) (n : Nat) : Int := match (List.range n).find? (fun k => f k == b) with | some k => k | none => -1
theorem idxI_hit {f : Nat → Bool} {b : Bool} {n k : Nat} (hk : k < n) (hf : f k = b) (h : ∀ j, j < k → f j ≠ b) : idxI f b n = k := by
  unfold idxI
  have : (List.range n).find? (fun k => f k == b) = some k := by
    rw [List.find?_range_eq_some]
    exact ⟨by simp [hf], by simpa using hk, fun j hj => by simpa using h j hj⟩
  rw [this]
theorem idxI_miss {f : Nat → Bool} {b : Bool} {n : Nat} (h : ∀ j, j < n → f j ≠ b) : idxI f b n = -1 := by
  unfold idxI
  have : (List.range n).find? (fun k => f k == b) = none := by
    rw [List.find?_range_eq_none]
    intro j hj; simpa using h j hj
  rw [this]
theorem idxI_cases (f : Nat → Bool) (b : Bool) (n : Nat) : (∃ k, k < n ∧ f k = b ∧ (∀ j, j < k → f j ≠ b) ∧ idxI f b n = k) ∨ ((∀ j, j < n → f j ≠ b) ∧ idxI f b n = -1) := by
  cases h : (List.range n).find? (fun k => f k == b) with
  | some k =>
    rw [List.find?_range_eq_some] at h
    obtain ⟨h1, h2, h3⟩ := h
    have h1 : f k = b := by simpa using h1
    have h2 : k < n := by simpa using h2
    have h3 : ∀ j, j < k → f j ≠ b := fun j hj => by simpa using h3 j hj
    exact .inl ⟨k, h2, h1, h3, idxI_hit h2 h1 h3⟩
  | none =>
    rw [List.find?_range_eq_none] at h
    have h3 : ∀ j, j < n → f j ≠ b := fun j hj => by simpa using h j hj
    exact .inr ⟨h3, idxI_miss h3⟩

/-- A row of free places, as long as it gets. -/
def OkRun (f : Nat → Bool) (n : Nat) (x : Nat × Nat) : Prop := 0 < x.2 ∧ x.1 + x.2 ≤ n ∧ (∀ q, x.1 ≤ q → q < x.1 + x.2 → f q = false) ∧ (x.1 + x.2 < n → f (x.1 + x.2) = true)
/-- All free places up to one lie in rows that have come. -/
def Runs (f : Nat → Bool) (n upTo : Nat) (xs : List {x : Nat × Nat // OkRun f n x}) : Prop := ∀ q, q < upTo → q < n → f q = false → ∃ x ∈ xs, x.1.1 ≤ q ∧ q < x.1.1 + x.1.2

/-- Some free places in a row. -/
def FreeAt (f : Nat → Bool) (n a r : Nat) : Prop := a + r ≤ n ∧ ∀ q, a ≤ q → q < a + r → f q = false
theorem runs_none {f : Nat → Bool} {n u r a : Nat} {xs : List {x : Nat × Nat // OkRun f n x}} (h : Runs f n u xs) (hr : 0 < r) (hx : ∀ x ∈ xs, x.1.2 < r) (ha : a < u) : ¬ FreeAt f n a r := by
  rintro ⟨h1, h2⟩
  obtain ⟨x, hm, h3, h4⟩ := h a ha (by omega) (h2 a (Nat.le_refl _) (by omega))
  have h5 := hx x hm
  obtain ⟨p1, p2, p3, p4⟩ := x.2
  by_cases h6 : x.1.1 + x.1.2 < n
  · have := h2 (x.1.1 + x.1.2) (by omega) (by omega)
    rw [p4 h6] at this
    cases this
  · omega
/-- The lowest place where so many are free, if there is one. -/
def lowF (f : Nat → Bool) (n r : Nat) : Option Nat := (List.range n).find? fun a => decide (a + r ≤ n) && (List.range r).all fun i => !f (a + i)
theorem freeAt_iff {f : Nat → Bool} {n a r : Nat} : FreeAt f n a r ↔ (decide (a + r ≤ n) && (List.range r).all fun i => !f (a + i)) = true := by
  simp only [Bool.and_eq_true, decide_eq_true_eq, List.all_eq_true, List.mem_range, Bool.not_eq_true']
  exact ⟨fun h => ⟨h.1, fun i hi => h.2 _ (by omega) (by omega)⟩, fun h => ⟨h.1, fun q h1 h2 => by have := h.2 (q - a) (by omega); rwa [show a + (q - a) = q by omega] at this⟩⟩
theorem lowF_some {f : Nat → Bool} {n r a : Nat} (hr : 0 < r) (h : FreeAt f n a r) (hl : ∀ q, q < a → ¬ FreeAt f n q r) : lowF f n r = some a := by
  unfold lowF
  rw [List.find?_range_eq_some]
  refine ⟨freeAt_iff.1 h, by have := h.1; simp; omega, fun j hj => ?_⟩
  have := hl j hj
  rw [freeAt_iff] at this
  simp only [Bool.not_eq_true] at this
  rw [this]; rfl
theorem lowF_none {f : Nat → Bool} {n r : Nat} (hl : ∀ q, q < n → ¬ FreeAt f n q r) : lowF f n r = none := by
  unfold lowF
  rw [List.find?_range_eq_none]
  intro j hj
  have := hl j hj
  rw [freeAt_iff] at this
  simp only [Bool.not_eq_true] at this
  rw [this]; rfl
end Go.Proofs.Ytjcnaefgffnphaa
