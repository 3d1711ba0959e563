/- Words on memory: which blocks a call may turn, rows that a value owns. -/
import Derived.WalkKit
import Derived.WalkSpells
import Derived.WalkLawsBesides
import Derived.Lib.Hide
namespace Go.Proofs.Ytjcnaefgffnphaa
open Go.RowKit

/-- Of the blocks that were there, those of S alone may have turned. -/
structure Mod (S : Nat → Prop) (w w' : World) : Prop where
  os : w'.os = w.os
  tape : w'.tape = w.tape
  output : w'.output = w.output
  size : w.heap.size ≤ w'.heap.size
  block : ∀ k, k < w.heap.size → ¬ S k → w'.heap[k]? = w.heap[k]?

section
variable {S T : Nat → Prop} {w w1 w2 : World}
theorem Mod.refl (S : Nat → Prop) (w : World) : Mod S w w := ⟨rfl, rfl, rfl, Nat.le_refl _, fun _ _ _ => rfl⟩
theorem Mod.mono (h : Mod S w w1) (hST : ∀ k, k < w.heap.size → S k → T k) : Mod T w w1 :=
  ⟨h.os, h.tape, h.output, h.size, fun k hk hn => h.block k hk fun hs => hn (hST k hk hs)⟩
theorem Mod.trans (h : Mod S w w1) (k : Mod T w1 w2) (hT : ∀ i, i < w.heap.size → T i → S i) : Mod S w w2 :=
  ⟨k.os.trans h.os, k.tape.trans h.tape, k.output.trans h.output, Nat.le_trans h.size k.size,
    fun i hi hn => (k.block i (Nat.lt_of_lt_of_le hi h.size) fun ht => hn (hT i hi ht)).trans (h.block i hi hn)⟩
theorem Mod.alloc (h : Mod S w w1) (o : Obj) : Mod S w (w1.alloc o) :=
  h.trans (T := fun _ => False) ⟨rfl, rfl, rfl, by simp, fun k hk _ => Below.heap_alloc _ _ _ hk⟩ fun _ _ h => h.elim
theorem Mod.drew (h : Mod S w w1) : Mod S w w1.drew := ⟨h.os, h.tape, h.output, h.size, h.block⟩
theorem Mod.setCell (h : Mod S w w1) {p : Addr} (hp : p.block < w.heap.size → S p.block) (u : Value) : Mod S w (w1.setCell p u) :=
  h.trans (T := fun k => k = p.block) ⟨rfl, rfl, rfl, by simp [World.setCell], fun k _ hn => Below.heap_setCell _ _ _ _ hn⟩ fun i hi e => e ▸ hp (e ▸ hi)
theorem Mod.grown (h : Mod S w w1) {row : Option Nat} (hg : w1.grownBy w2 row) (hr : ∀ k, row = some k → k < w.heap.size → S k) : Mod S w w2 :=
  h.trans (T := fun k => some k = row) ⟨hg.os, hg.tape, hg.output, hg.size, fun k hk hn => hg.block k hk hn⟩ fun i hi e => hr i e.symm hi
theorem Mod.of_below {B : Nat} (h : Below B w w1) (hB : w.heap.size ≤ B) : Mod S w w1 :=
  ⟨h.os, h.tape, h.output, h.size, fun k hk _ => h.block k (Nat.lt_of_lt_of_le hk hB)⟩
theorem Mod.below {B : Nat} (h : Mod S w w1) (hB : ∀ k, S k → B ≤ k) (hs : B ≤ w.heap.size) : Below B w w1 :=
  ⟨h.os, h.tape, h.output, h.size, fun k hk => h.block k (Nat.lt_of_lt_of_le hk hs) fun hS => by have := hB k hS; omega⟩
theorem Mod.grownBy {g : Option Nat} (h : Mod S w w1) (hS : ∀ k, S k → g = some k) : w.grownBy w1 g :=
  ⟨h.os, h.tape, h.output, h.size, fun k hk hn => h.block k hk fun hs => hn (hS k hs).symm⟩
end

/-- Old cells and old marks read as before. -/
theorem bcell {W w1 : World} (hb : Below W.heap.size W w1) : (∀ b o, b < W.heap.size → w1.cell? ⟨b, o, none⟩ = W.cell? ⟨b, o, none⟩) ∧ (∀ b o, b < W.heap.size → w1.frozen? ⟨b, o, none⟩ = W.frozen? ⟨b, o, none⟩) :=
  ⟨fun b o h => hb.cell (p := ⟨b, o, none⟩) h, fun b o h => hb.frozen (p := ⟨b, o, none⟩) h⟩
theorem ret_int {k : IntKind} {a b : Int} (h : a = b) : Ending.returned (.int k a) = Ending.returned (.int k b) := by rw [h]
theorem ret_bool {a b : Bool} (h : a = b) : Ending.returned (.bool a) = Ending.returned (.bool b) := by rw [h]
theorem ret_ib {k : IntKind} {a b : Int} {x y : Bool} (h : a = b) (hx : x = y) : Ending.returned (.tuple #[.int k a, .bool x]) = Ending.returned (.tuple #[.int k b, .bool y]) := by rw [h, hx]

theorem own_mod {w w' : World} {base : Nat} {e : TypeId} {size n : Nat} {v : Value} {xs : List Value} {S : Nat → Prop} (h : w.ownsRow base e size v n xs) (hm : Mod S w w')
    (hS : ∀ k, v.ownBlock = some k → ¬ S k) : w'.ownsRow base e size v n xs := by
  refine ⟨h.1, ?_⟩
  rcases h.2 with hn | ⟨g, cap, cur, rfl, hb, hgg, rest⟩
  · exact .inl hn
  · refine .inr ⟨g, cap, cur, rfl, hb, ?_, rest⟩
    rw [hm.block g (Array.getElem?_eq_some_iff.1 hgg).1 (hS g rfl)]
    exact hgg
theorem own_form {w : World} {base : Nat} {e : TypeId} {size n : Nat} {v : Value} {xs : List Value} (h : w.ownsRow base e size v n xs) : ∃ A c, v = .slice A n c ∧ n ≤ c ∧ c ≤ maxLen := by
  rcases h.2 with ⟨rfl, h0⟩ | ⟨g, cap, cur, rfl, _, _, hn, hc, _⟩
  · exact ⟨none, 0, by rw [h0], by omega, by unfold maxLen; omega⟩
  · exact ⟨_, cap, rfl, hn, hc⟩
theorem own_at {w : World} {base : Nat} {e : TypeId} {size n c : Nat} {A : Option Addr} {xs : List Value} (h : w.ownsRow base e size (.slice A n c) n xs) (hn : 0 < n) :
    ∃ g, A = some ⟨g, 0, none⟩ ∧ base ≤ g ∧ g < w.heap.size ∧ (∀ j, j < n * size → w.cell? ⟨g, j, none⟩ = xs[j]?) ∧ (∀ j, w.frozen? ⟨g, j, none⟩ = false) := by
  have h' := h
  rcases h.2 with ⟨hv, h0⟩ | ⟨g, cap, cur, hv, hb, hg, _⟩
  · omega
  · simp only [Value.slice.injEq] at hv
    obtain ⟨rfl, _, rfl⟩ := hv
    exact ⟨g, rfl, hb, (Array.getElem?_eq_some_iff.1 hg).1, fun j hj => h'.cellAt j hj, fun j => h'.frozenAt j⟩
end Go.Proofs.Ytjcnaefgffnphaa
