/- Words on memory for the ledger's proofs: which blocks a call may turn, rows of entries. -/
import Derived.WalkKit
import Derived.WalkSpells
import Derived.WalkLawsBesides
import Derived.Lib.Hide
namespace Go.Proofs.Ytgkloacfickeaaa
open Go.RowKit

/-- Of the blocks that were there, those of S alone may have turned. -/
structure Mod (S : Nat → Prop) (w w' : World) : Prop where
  os : w'.os = w.os
  tape : w'.tape = w.tape
  output : w'.output = w.output
  size : w.heap.size ≤ w'.heap.size
  block : ∀ k, k < w.heap.size → ¬ S k → w'.heap[k]? = w.heap[k]?

section
variable {S T : Nat → Prop} {w w1 w2 : World}
theorem Mod.refl (S : Nat → Prop) (w : World) : Mod S w w := ⟨rfl, rfl, rfl, Nat.le_refl _, fun _ _ _ => rfl⟩
theorem Mod.mono (h : Mod S w w1) (hST : ∀ k, k < w.heap.size → S k → T k) : Mod T w w1 :=
  ⟨h.os, h.tape, h.output, h.size, fun k hk hn => h.block k hk fun hs => hn (hST k hk hs)⟩
theorem Mod.trans (h : Mod S w w1) (k : Mod T w1 w2) (hT : ∀ i, i < w.heap.size → T i → S i) : Mod S w w2 :=
  ⟨k.os.trans h.os, k.tape.trans h.tape, k.output.trans h.output, Nat.le_trans h.size k.size,
    fun i hi hn => (k.block i (Nat.lt_of_lt_of_le hi h.size) fun ht => hn (hT i hi ht)).trans (h.block i hi hn)⟩
theorem Mod.alloc (h : Mod S w w1) (o : Obj) : Mod S w (w1.alloc o) :=
  h.trans (T := fun _ => False) ⟨rfl, rfl, rfl, by simp, fun k hk _ => Below.heap_alloc _ _ _ hk⟩ fun _ _ h => h.elim
theorem Mod.drew (h : Mod S w w1) : Mod S w w1.drew := ⟨h.os, h.tape, h.output, h.size, h.block⟩
theorem Mod.setCell (h : Mod S w w1) {p : Addr} (hp : p.block < w.heap.size → S p.block) (u : Value) : Mod S w (w1.setCell p u) :=
  h.trans (T := fun k => k = p.block) ⟨rfl, rfl, rfl, by simp [World.setCell], fun k _ hn => Below.heap_setCell _ _ _ _ hn⟩ fun i hi e => e ▸ hp (e ▸ hi)
theorem Mod.grown (h : Mod S w w1) {row : Option Nat} (hg : w1.grownBy w2 row) (hr : ∀ k, row = some k → k < w.heap.size → S k) : Mod S w w2 :=
  h.trans (T := fun k => some k = row) ⟨hg.os, hg.tape, hg.output, hg.size, fun k hk hn => hg.block k hk hn⟩ fun i hi e => hr i e.symm hi
theorem Mod.of_below {B : Nat} (h : Below B w w1) (hB : w.heap.size ≤ B) : Mod S w w1 :=
  ⟨h.os, h.tape, h.output, h.size, fun k hk _ => h.block k (Nat.lt_of_lt_of_le hk hB)⟩
theorem Mod.below {B : Nat} (h : Mod S w w1) (hB : ∀ k, S k → B ≤ k) (hs : B ≤ w.heap.size) : Below B w w1 :=
  ⟨h.os, h.tape, h.output, h.size, fun k hk => h.block k (Nat.lt_of_lt_of_le hk hs) fun hS => by have := hB k hS; omega⟩
theorem Mod.grownBy {g : Option Nat} (h : Mod S w w1) (hS : ∀ k, S k → g = some k) : w.grownBy w1 g :=
  ⟨h.os, h.tape, h.output, h.size, fun k hk hn => h.block k hk fun hs => hn (hS k hs).symm⟩
end

/-- Old cells and old marks read as before. -/
theorem bcell {W w1 : World} (hb : Below W.heap.size W w1) : (∀ b o, b < W.heap.size → w1.cell? ⟨b, o, none⟩ = W.cell? ⟨b, o, none⟩) ∧ (∀ b o, b < W.heap.size → w1.frozen? ⟨b, o, none⟩ = W.frozen? ⟨b, o, none⟩) :=
  ⟨fun b o h => hb.cell (p := ⟨b, o, none⟩) h, fun b o h => hb.frozen (p := ⟨b, o, none⟩) h⟩
theorem ret_int {k : IntKind} {a b : Int} (h : a = b) : Ending.returned (.int k a) = Ending.returned (.int k b) := by rw [h]
theorem ret_bool {a b : Bool} (h : a = b) : Ending.returned (.bool a) = Ending.returned (.bool b) := by rw [h]
theorem ret_ib {k : IntKind} {a b : Int} {x y : Bool} (h : a = b) (hx : x = y) : Ending.returned (.tuple #[.int k a, .bool x]) = Ending.returned (.tuple #[.int k b, .bool y]) := by rw [h, hx]

/-- An entry of the ledger. -/
structure Ent where
  a : Int
  n : Int
  al : Int
  h : Bool

def Ent.cells (e : Ent) : List Value := [.int .u64 e.a, .int .u64 e.n, .int .u64 e.al, .bool e.h]
def ents (es : List Ent) : List Value := es.flatMap Ent.cells

theorem length_ents (es : List Ent) : (ents es).length = es.length * 4 := by
  induction es with
  | nil => rfl
  | cons e es ih => simp [ents, Ent.cells] at ih ⊢; omega
theorem ents_append (a b : List Ent) : ents (a ++ b) = ents a ++ ents b := by simp [ents]
theorem take_ents (es : List Ent) (k : Nat) : (ents es).take (k * 4) = ents (es.take k) := by
  induction es generalizing k with
  | nil => simp [ents]
  | cons e es ih =>
    cases k with
    | zero => simp [ents]
    | succ k =>
      have := ih k
      simp only [ents, List.flatMap_cons, List.take_succ_cons] at this ⊢
      rw [Nat.succ_mul, List.take_append]
      simp only [Ent.cells, List.length_cons, List.length_nil]
      rw [List.take_of_length_le (by simp)]
      rw [show k * 4 + 4 - (0 + 1 + 1 + 1 + 1) = k * 4 from by omega]
      exact congrArg _ this
theorem drop_ents (es : List Ent) (k : Nat) : (ents es).drop (k * 4) = ents (es.drop k) := by
  induction es generalizing k with
  | nil => simp [ents]
  | cons e es ih =>
    cases k with
    | zero => simp [ents]
    | succ k =>
      have := ih k
      simp only [ents, List.flatMap_cons, List.drop_succ_cons] at this ⊢
      rw [Nat.succ_mul, List.drop_append]
      simp only [Ent.cells, List.length_cons, List.length_nil]
      rw [List.drop_eq_nil_of_le (by simp)]
      rw [show k * 4 + 4 - (0 + 1 + 1 + 1 + 1) = k * 4 from by omega]
      simpa using this
theorem getElem?_ents {es : List Ent} {k : Nat} {e : Ent} (h : es[k]? = some e) (j : Nat) (hj : j < 4) : (ents es)[k * 4 + j]? = e.cells[j]? := by
  have h1 : ((ents es).drop (k * 4))[j]? = (ents es)[k * 4 + j]? := by simp
  rw [← h1, drop_ents]
  obtain ⟨hk, rfl⟩ := List.getElem?_eq_some_iff.1 h
  rw [List.drop_eq_getElem_cons hk]
  simp only [ents, List.flatMap_cons]
  rw [List.getElem?_append_left (by simp [Ent.cells]; omega)]

theorem oneCell_ents (es : List Ent) : ∀ u ∈ ents es, u.oneCell' = true := by
  intro u hu
  simp only [ents, List.mem_flatMap] at hu
  obtain ⟨e, _, he⟩ := hu
  simp [Ent.cells] at he
  rcases he with rfl | rfl | rfl | rfl <;> rfl

/-- A slice value that owns entries. -/
def OwnE (w : World) (base : Nat) (v : Value) (es : List Ent) : Prop := w.ownsRow base 55 4 v es.length (ents es)

theorem OwnE.form {w : World} {base : Nat} {v : Value} {es : List Ent} (h : OwnE w base v es) : ∃ A c, v = .slice A es.length c ∧ es.length ≤ c ∧ c ≤ maxLen := by
  rcases h.2 with ⟨rfl, h0⟩ | ⟨g, cap, cur, rfl, _, _, hn, hc, _⟩
  · exact ⟨none, 0, by rw [h0], by omega, by unfold maxLen; omega⟩
  · exact ⟨_, cap, rfl, hn, hc⟩

theorem OwnE.at {w : World} {base c : Nat} {A : Option Addr} {es : List Ent} (h : OwnE w base (.slice A es.length c) es) {k : Nat} {e : Ent} (he : es[k]? = some e) :
    ∃ g, A = some ⟨g, 0, none⟩ ∧ base ≤ g ∧ g < w.heap.size ∧ w.cell? ⟨g, k * 4, none⟩ = some (.int .u64 e.a) ∧ w.cell? ⟨g, k * 4 + 1, none⟩ = some (.int .u64 e.n) ∧
      w.cell? ⟨g, k * 4 + 2, none⟩ = some (.int .u64 e.al) ∧ w.cell? ⟨g, k * 4 + 3, none⟩ = some (.bool e.h) ∧ (∀ j, w.frozen? ⟨g, j, none⟩ = false) := by
  have hk : k < es.length := (List.getElem?_eq_some_iff.1 he).1
  have h' := h
  rcases h.2 with ⟨hv, h0⟩ | ⟨g, cap, cur, hv, hb, hg, hn, hc, _⟩
  · omega
  · simp only [Value.slice.injEq] at hv
    obtain ⟨rfl, _, rfl⟩ := hv
    unfold OwnE at h'
    refine ⟨g, rfl, hb, (Array.getElem?_eq_some_iff.1 hg).1, ?_, ?_, ?_, ?_, fun j => h'.frozenAt j⟩
    · exact (h'.cellAt (k * 4) (by omega)).trans (getElem?_ents he 0 (by omega))
    · exact (h'.cellAt (k * 4 + 1) (by omega)).trans (getElem?_ents he 1 (by omega))
    · exact (h'.cellAt (k * 4 + 2) (by omega)).trans (getElem?_ents he 2 (by omega))
    · exact (h'.cellAt (k * 4 + 3) (by omega)).trans (getElem?_ents he 3 (by omega))

theorem OwnE.lt {w : World} {base : Nat} {v : Value} {es : List Ent} (h : OwnE w base v es) : ∀ k, v.ownBlock = some k → base ≤ k ∧ k < w.heap.size := World.ownsRow.lt h
theorem own_mod {w w' : World} {base : Nat} {e : TypeId} {size n : Nat} {v : Value} {xs : List Value} {S : Nat → Prop} (h : w.ownsRow base e size v n xs) (hm : Mod S w w')
    (hS : ∀ k, v.ownBlock = some k → ¬ S k) : w'.ownsRow base e size v n xs := by
  refine ⟨h.1, ?_⟩
  rcases h.2 with hn | ⟨g, cap, cur, rfl, hb, hgg, rest⟩
  · exact .inl hn
  · refine .inr ⟨g, cap, cur, rfl, hb, ?_, rest⟩
    rw [hm.block g (Array.getElem?_eq_some_iff.1 hgg).1 (hS g rfl)]
    exact hgg
theorem OwnE.mod {w w' : World} {base : Nat} {v : Value} {es : List Ent} {S : Nat → Prop} (h : OwnE w base v es) (hm : Mod S w w') (hS : ∀ k, v.ownBlock = some k → ¬ S k) : OwnE w' base v es :=
  own_mod h hm hS

/-- The ledger at block p: its one cell is a slice that owns the entries es. -/
def Led (w : World) (base p : Nat) (v : Value) (es : List Ent) : Prop := base ≤ p ∧ w.heap[p]? = some (.cells #[v] 27 (0, 0)) ∧ OwnE w base v es

theorem Led.lt {w : World} {base p : Nat} {v : Value} {es : List Ent} (h : Led w base p v es) : p < w.heap.size := (Array.getElem?_eq_some_iff.1 h.2.1).1
theorem Led.cell {w : World} {base p : Nat} {v : Value} {es : List Ent} (h : Led w base p v es) : w.cell? ⟨p, 0, none⟩ = some v := by
  have := h.2.1; simp [World.cell?, this]
theorem Led.frozen {w : World} {base p : Nat} {v : Value} {es : List Ent} (h : Led w base p v es) : w.frozen? ⟨p, 0, none⟩ = false := by
  have := h.2.1; simp [World.frozen?, this]
theorem Led.ne {w : World} {base p : Nat} {v : Value} {es : List Ent} (h : Led w base p v es) : v.ownBlock ≠ some p := by
  intro hp
  rcases h.2.2.2 with ⟨rfl, _⟩ | ⟨g, cap, cur, rfl, _, hgg, _⟩
  · simp [Value.ownBlock] at hp
  · simp [Value.ownBlock] at hp
    subst hp
    have := h.2.1
    rw [hgg] at this
    simp at this
theorem Led.mod {w w' : World} {base p : Nat} {v : Value} {es : List Ent} {S : Nat → Prop} (h : Led w base p v es) (hm : Mod S w w') (hp : ¬ S p) (hS : ∀ k, v.ownBlock = some k → ¬ S k) : Led w' base p v es :=
  ⟨h.1, (hm.block p h.lt hp).trans h.2.1, h.2.2.mod hm hS⟩
end Go.Proofs.Ytgkloacfickeaaa
