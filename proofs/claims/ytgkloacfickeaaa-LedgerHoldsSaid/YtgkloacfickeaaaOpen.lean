/- What acts that are handed in look like. -/
import Derived.Test.YtgkloacfickeaaaGreat
import Derived.Test.YtgkloacfickeaaaFits
import Derived.Deep.Slices
import Derived.Deep.Fields
import Derived.ProofKit
import Derived.OpenShut
import Derived.ChangeSlices
namespace Go.Proofs.Ytgkloacfickeaaa
open Go.RowKit Go.ChangeShapes Go.WideShapes Go.ChangeAt
set_option linter.unusedVariables false

/-- What is known of an act that was handed in. -/
def ActOk (w : World) (base : Nat) (x : ActV) : Prop :=
  AdsB w base x.A x.m x.xs ∧ x.m ≤ 9223372036854775807 ∧ 0 ≤ x.a ∧ x.a ≤ 18446744073709551615 ∧ 0 ≤ x.n ∧ x.n ≤ 18446744073709551615 ∧ 0 ≤ x.al ∧ x.al ≤ 18446744073709551615

def fieldsOf (P : Program) (t : TypeId) : Option (List (TypeId × Nat)) :=
  match P.underlying t with | some (.struct fs) => some (fs.toList.map fun f => (f.type, f.offset)) | _ => none
theorem f38 : fieldsOf Try.prog 38 = some [(3, 0), (35, 1), (36, 4)] := by kernel_rfl
theorem f35 : fieldsOf Try.prog 35 = some [(33, 0), (33, 1), (33, 2)] := by kernel_rfl
theorem struct_of {P : Program} {t : TypeId} {l : List (TypeId × Nat)} (h : fieldsOf P t = some l) : ∃ fs : Array Field, P.underlying t = some (.struct fs) ∧ fs.toList.map (fun f => (f.type, f.offset)) = l := by
  unfold fieldsOf at h
  split at h
  · rename_i fs hu
    exact ⟨fs, hu, by simpa using h⟩
  · simp at h
section
variable {H : Type} {enc : TypeId × Value → H} {w : World} {base : Nat} {spare : Nat → Bool} {held : Bool} {fuel : Nat} {cs : List Value} {x : DataW H × List MemPlace}
theorem field_at {P : Program} {t : TypeId} {l : List (TypeId × Nat)} (h : fieldsOf P t = some l) (hd : DataW.trod enc P w base spare held fuel t cs = some x) :
    cs.length = P.cellsOf t ∧ ∃ n, ∀ (i : Nat) (ty : TypeId) (o : Nat), l[i]? = some (ty, o) → ∃ y, DataW.trod enc P w base spare held n ty ((cs.drop o).take (P.cellsOf ty)) = some y := by
  obtain ⟨fs, hu, hl⟩ := struct_of h
  obtain ⟨xs, n, _, _, hc, hx, hf⟩ := DataW.trod_struct hu hd
  refine ⟨hc, n, fun i ty o hi => ?_⟩
  rw [← hl] at hi
  simp only [List.getElem?_map, Option.map_eq_some_iff] at hi
  obtain ⟨f, hf1, hf2⟩ := hi
  rw [Array.getElem?_toList] at hf1
  have h2 := hf i f hf1
  obtain ⟨rfl, rfl⟩ := Prod.mk.inj hf2
  have hi2 : i < xs.length := by rw [hx]; exact (Array.getElem?_eq_some_iff.1 hf1).1
  exact ⟨xs[i], by rw [h2]; simp [hi2]⟩

theorem open_block (hd : DataW.trod enc Try.prog w base spare held fuel 35 cs = some x) :
    ∃ a n al : Int, cs = [.int .u64 a, .int .u64 n, .int .u64 al] ∧ 0 ≤ a ∧ a ≤ 18446744073709551615 ∧ 0 ≤ n ∧ n ≤ 18446744073709551615 ∧ 0 ≤ al ∧ al ≤ 18446744073709551615 := by
  obtain ⟨hc, n, hf⟩ := field_at f35 hd
  have h3 : Try.prog.cellsOf 35 = 3 := by kernel_rfl
  have h1 : Try.prog.cellsOf 33 = 1 := by kernel_rfl
  rw [h3] at hc
  obtain ⟨c0, c1, c2, rfl⟩ : ∃ a b c, cs = [a, b, c] := by
    match cs, hc with
    | [a, b, c], _ => exact ⟨a, b, c, rfl⟩
  obtain ⟨y0, g0⟩ := hf 0 33 0 rfl
  obtain ⟨y1, g1⟩ := hf 1 33 1 rfl
  obtain ⟨y2, g2⟩ := hf 2 33 2 rfl
  rw [h1] at g0 g1 g2
  obtain ⟨a, e0, _, w0⟩ := DataW.trod_int Try.underlying33 g0
  obtain ⟨b, e1, _, w1⟩ := DataW.trod_int Try.underlying33 g1
  obtain ⟨c, e2, _, w2⟩ := DataW.trod_int Try.underlying33 g2
  simp at e0 e1 e2
  subst e0 e1 e2
  simp [Lit.wf, IntKind.min, IntKind.max, IntKind.signed, IntKind.bits] at w0 w1 w2
  exact ⟨a, b, c, rfl, by omega, by omega, by omega, by omega, by omega, by omega⟩

theorem open_ads (hd : DataW.trod enc Try.prog w base spare held fuel 36 cs = some x) :
    ∃ (A : Option Addr) (m c : Nat) (xs : List Int), cs = [.slice A m c] ∧ m ≤ 9223372036854775807 ∧ AdsB w w.heap.size A m xs := by
  rcases open_ints Try.underlying36 Try.underlying33 (by kernel_rfl) hd with ⟨rfl, _⟩ | ⟨a, len, cap, zs, rfl, _, hl, hm, hz, _, hcell, _⟩
  · exact ⟨none, 0, 0, [], rfl, by omega, rfl, fun h => by omega⟩
  · unfold maxLen at hm
    have hzl : len ≤ zs.length := by rw [hz]; split <;> omega
    refine ⟨some a, len, cap, zs.take len, rfl, by omega, by simp; omega, fun h0 => ⟨a, rfl, ?_, fun j t ht => ?_⟩⟩
    · have := World.block_lt_of_cell? w _ (hcell 0 (by omega))
      rwa [block_of_add] at this
    · rw [List.getElem?_take] at ht
      split at ht
      · rw [hcell j (by omega)]
        simp [List.getD, ht]
      · simp at ht

theorem open_act (hd : DataW.trod enc Try.prog w base spare held fuel 38 cs = some x) :
    ∃ x : ActV, cs = [.int .i64 x.kind, .int .u64 x.a, .int .u64 x.n, .int .u64 x.al, .slice x.A x.m x.c] ∧ ActOk w w.heap.size x := by
  obtain ⟨hc, n, hf⟩ := field_at f38 hd
  have h5 : Try.prog.cellsOf 38 = 5 := by kernel_rfl
  have h1 : Try.prog.cellsOf 3 = 1 := by kernel_rfl
  have h3 : Try.prog.cellsOf 35 = 3 := by kernel_rfl
  have h2 : Try.prog.cellsOf 36 = 1 := by kernel_rfl
  rw [h5] at hc
  obtain ⟨c0, c1, c2, c3, c4, rfl⟩ : ∃ a b c d e, cs = [a, b, c, d, e] := by
    match cs, hc with
    | [a, b, c, d, e], _ => exact ⟨a, b, c, d, e, rfl⟩
  obtain ⟨y0, g0⟩ := hf 0 3 0 rfl
  obtain ⟨y1, g1⟩ := hf 1 35 1 rfl
  obtain ⟨y2, g2⟩ := hf 2 36 4 rfl
  rw [h1] at g0
  rw [h3] at g1
  rw [h2] at g2
  obtain ⟨kind, e0, _, _⟩ := DataW.trod_int Try.underlying3 g0
  obtain ⟨a, b, c, e1, r1, r2, r3, r4, r5, r6⟩ := open_block g1
  obtain ⟨A, m, cp, xs, e2, hm, hads⟩ := open_ads g2
  simp at e0 e1 e2
  obtain ⟨rfl, rfl, rfl⟩ := e1
  subst e0 e2
  exact ⟨⟨kind, a, b, c, A, m, cp, xs⟩, rfl, hads, hm, r1, r2, r3, r4, r5, r6⟩

theorem list_of {α : Type} {p : Nat → α → Prop} (n : Nat) (h : ∀ i, i < n → ∃ v, p i v) : ∃ l : List α, l.length = n ∧ ∀ (k : Nat) (x : α), l[k]? = some x → p k x := by
  induction n with
  | zero => exact ⟨[], rfl, fun k x hx => by simp at hx⟩
  | succ n ih =>
    obtain ⟨l, hl, hp⟩ := ih (fun i hi => h i (by omega))
    obtain ⟨v, hv⟩ := h n (by omega)
    refine ⟨l ++ [v], by simp [hl], fun k x hx => ?_⟩
    by_cases hk : k < n
    · rw [List.getElem?_append_left (by omega)] at hx
      exact hp k x hx
    · rw [List.getElem?_append_right (by omega)] at hx
      have hk0 : k - l.length = 0 := by
        have := (List.getElem?_eq_some_iff.1 hx).1
        simp at this
        omega
      rw [hk0] at hx
      simp at hx
      subst hx
      have : k = n := by omega
      subst this
      exact hv

theorem open_acts (hd : DataW.trod enc Try.prog w base spare held fuel 22 cs = some x) :
    ∃ (AA : Option Addr) (N C : Nat) (acts : List ActV), cs = [.slice AA N C] ∧ N ≤ 9223372036854775807 ∧ Acts w w.heap.size AA N acts ∧ ∀ x ∈ acts, ActOk w w.heap.size x := by
  rcases Go.Deep.open_slice Try.underlying22 hd with ⟨rfl, _⟩ | ⟨a, len, cap, m, n, D, Pl, rfl, hb, hl, hm, hmm, _, hel⟩
  · exact ⟨none, 0, 0, [], rfl, by omega, ⟨rfl, fun h => by omega⟩, fun x hx => by simp at hx⟩
  · have hml : len ≤ m := by rw [hmm]; split <;> omega
    have h5 : Try.prog.cellsOf 38 = 5 := by kernel_rfl
    rw [h5] at hel
    unfold maxLen at hm
    have hspot : 0 < len → a.spot = none := by
      intro h0
      obtain ⟨cs', h1, h2⟩ := hel 0 (by omega)
      obtain ⟨_, _, hat⟩ := World.cells?_some h1
      obtain ⟨x, rfl, hok⟩ := open_act h2
      have c0 := World.cell?_spot ((hat 0 (by omega)).trans rfl)
      simpa [Addr.add] using c0
    have key : ∀ i, i < len → ∃ x : ActV, ActOk w w.heap.size x ∧ ∃ b o, a = ⟨b, o, none⟩ ∧ b < w.heap.size ∧ ActAt w b (o + i * 5) x := by
      intro i hi
      obtain ⟨cs', h1, h2⟩ := hel i (by omega)
      obtain ⟨_, _, hat⟩ := World.cells?_some h1
      obtain ⟨x, rfl, hok⟩ := open_act h2
      obtain ⟨b, o, sp⟩ := a
      have hsp' : sp = none := hspot (by omega)
      subst hsp'
      have cell : ∀ j v, j < 5 → ([Value.int .i64 x.kind, .int .u64 x.a, .int .u64 x.n, .int .u64 x.al, .slice x.A x.m x.c] : List Value)[j]? = some v → w.cell? ⟨b, o + i * 5 + j, none⟩ = some v := by
        intro j v hj hv
        have := hat j hj
        rw [add_off, add_off] at this
        rw [this, hv]
      refine ⟨x, hok, b, o, rfl, ?_, ?_⟩
      · have := World.block_lt_of_cell? w _ (cell 0 _ (by omega) rfl)
        exact this
      · exact ⟨cell 0 _ (by omega) rfl, cell 1 _ (by omega) rfl, cell 2 _ (by omega) rfl, cell 3 _ (by omega) rfl, cell 4 _ (by omega) rfl⟩
    obtain ⟨l, hll, hlp⟩ := list_of len key
    refine ⟨some a, len, cap, l, rfl, by omega, ⟨hll, fun h0 => ?_⟩, fun x hx => ?_⟩
    · obtain ⟨x0, _, b, o, rfl, hb0, _⟩ := key 0 h0
      refine ⟨b, o, rfl, hb0, fun k x hx => ?_⟩
      obtain ⟨_, b', o', he, _, hat⟩ := hlp k x hx
      simp only [Addr.mk.injEq] at he
      obtain ⟨rfl, rfl, _⟩ := he
      exact hat
    · obtain ⟨k, hk⟩ := List.getElem?_of_mem hx
      exact (hlp k x hk).1
end
end Go.Proofs.Ytgkloacfickeaaa
