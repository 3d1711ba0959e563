/- Acts that are handed in. -/
import Derived.Test.YtjcnaefgffnphaaOpen
namespace Go.Proofs.Ytjcnaefgffnphaa
open Go.RowKit Go.ChangeShapes Go.WideShapes Go.ChangeAt
set_option linter.unusedVariables false

/-- An act: what is done, a number, what is told (where it lies, the row's room, what it is). -/
structure ActV where
  kind : Int
  n : Int
  A : Option Addr
  c : Nat
  bs : List Bool
def ActAt (w : World) (b o : Nat) (x : ActV) : Prop :=
  w.cell? ⟨b, o, none⟩ = some (.int .i64 x.kind) ∧ w.cell? ⟨b, o + 1, none⟩ = some (.int .i64 x.n) ∧ w.cell? ⟨b, o + 2, none⟩ = some (.slice x.A x.bs.length x.c)
def Acts (w : World) (B : Nat) (AA : Option Addr) (N : Nat) (acts : List ActV) : Prop :=
  acts.length = N ∧ (0 < N → ∃ b o, AA = some ⟨b, o, none⟩ ∧ b < B ∧ ∀ (k : Nat) (x : ActV), acts[k]? = some x → ActAt w b (o + k * 3) x)
theorem ActAt.keep {w w' : World} {B b o : Nat} {x : ActV} (h : ActAt w b o x) (hb : Below B w w') (hB : b < B) : ActAt w' b o x := by
  obtain ⟨h0, h1, h2⟩ := h
  have hk : ∀ j, w'.cell? ⟨b, j, none⟩ = w.cell? ⟨b, j, none⟩ := fun j => hb.cell (p := ⟨b, j, none⟩) hB
  exact ⟨(hk _).trans h0, (hk _).trans h1, (hk _).trans h2⟩
theorem Acts.at {w : World} {B N k : Nat} {AA : Option Addr} {acts : List ActV} (h : Acts w B AA N acts) (hk : k < N) :
    ∃ b o x, AA = some ⟨b, o, none⟩ ∧ b < B ∧ acts[k]? = some x ∧ ActAt w b (o + k * 3) x := by
  obtain ⟨b, o, e, hb, hc⟩ := h.2 (by omega)
  have hl : k < acts.length := by have := h.1; omega
  exact ⟨b, o, acts[k], e, hb, List.getElem?_eq_getElem hl, hc k _ (List.getElem?_eq_getElem hl)⟩
/-- What is known of an act that was handed in. -/
def ActOk (w : World) (B : Nat) (x : ActV) : Prop := Reads w B 1 x.A x.bs.length (x.bs.map Value.bool) ∧ x.bs.length ≤ x.c ∧ x.c ≤ maxLen ∧ -9223372036854775808 ≤ x.n ∧ x.n ≤ 9223372036854775807

def fieldsOf (P : Program) (t : TypeId) : Option (List (TypeId × Nat)) :=
  match P.underlying t with | some (.struct fs) => some (fs.toList.map fun f => (f.type, f.offset)) | _ => none
theorem f45 : fieldsOf Try.prog 45 = some [(3, 0), (3, 1), (32, 2)] := by kernel_rfl
theorem struct_of {P : Program} {t : TypeId} {l : List (TypeId × Nat)} (h : fieldsOf P t = some l) : ∃ fs : Array Field, P.underlying t = some (.struct fs) ∧ fs.toList.map (fun f => (f.type, f.offset)) = l := by
  unfold fieldsOf at h
  split at h
  · rename_i fs hu
    exact ⟨fs, hu, by simpa using h⟩
  · simp at h
section
variable {H : Type} {enc : TypeId × Value → H} {w : World} {base : Nat} {spare : Nat → Bool} {held : Bool} {fuel : Nat} {cs : List Value} {x : DataW H × List MemPlace}
theorem field_at {P : Program} {t : TypeId} {l : List (TypeId × Nat)} (h : fieldsOf P t = some l) (hd : DataW.trod enc P w base spare held fuel t cs = some x) :
    cs.length = P.cellsOf t ∧ ∃ n, ∀ (i : Nat) (ty : TypeId) (o : Nat), l[i]? = some (ty, o) → ∃ y, DataW.trod enc P w base spare held n ty ((cs.drop o).take (P.cellsOf ty)) = some y := by
  obtain ⟨fs, hu, hl⟩ := struct_of h
  obtain ⟨xs, n, _, _, hc, hx, hf⟩ := DataW.trod_struct hu hd
  refine ⟨hc, n, fun i ty o hi => ?_⟩
  rw [← hl] at hi
  simp only [List.getElem?_map, Option.map_eq_some_iff] at hi
  obtain ⟨f, hf1, hf2⟩ := hi
  rw [Array.getElem?_toList] at hf1
  have h2 := hf i f hf1
  obtain ⟨rfl, rfl⟩ := Prod.mk.inj hf2
  have hi2 : i < xs.length := by rw [hx]; exact (Array.getElem?_eq_some_iff.1 hf1).1
  exact ⟨xs[i], by rw [h2]; simp [hi2]⟩

theorem open_act (hd : DataW.trod enc Try.prog w base spare held fuel 45 cs = some x) :
    ∃ x : ActV, cs = [.int .i64 x.kind, .int .i64 x.n, .slice x.A x.bs.length x.c] ∧ ActOk w w.heap.size x := by
  obtain ⟨hc, n, hf⟩ := field_at f45 hd
  have h5 : Try.prog.cellsOf 45 = 3 := by kernel_rfl
  have h1 : Try.prog.cellsOf 3 = 1 := by kernel_rfl
  have h2 : Try.prog.cellsOf 32 = 1 := by kernel_rfl
  rw [h5] at hc
  obtain ⟨c0, c1, c2, rfl⟩ : ∃ a b c, cs = [a, b, c] := by
    match cs, hc with
    | [a, b, c], _ => exact ⟨a, b, c, rfl⟩
  obtain ⟨y0, g0⟩ := hf 0 3 0 rfl
  obtain ⟨y1, g1⟩ := hf 1 3 1 rfl
  obtain ⟨y2, g2⟩ := hf 2 32 2 rfl
  rw [h1] at g0 g1
  rw [h2] at g2
  obtain ⟨kind, e0, _, _⟩ := DataW.trod_int Try.underlying3 g0
  obtain ⟨n, e1, _, w1⟩ := DataW.trod_int Try.underlying3 g1
  obtain ⟨A, c, bs, e2, e3, e4, e5⟩ := open_bools g2
  simp at e0 e1 e2
  subst e0 e1 e2
  simp [Lit.wf, IntKind.min, IntKind.max, IntKind.signed, IntKind.bits] at w1
  exact ⟨⟨kind, n, A, c, bs⟩, rfl, e5, e3, e4, by simp; omega, by simp; omega⟩

theorem open_acts (hd : DataW.trod enc Try.prog w base spare held fuel 43 cs = some x) :
    ∃ (AA : Option Addr) (N C : Nat) (acts : List ActV), cs = [.slice AA N C] ∧ N ≤ 9223372036854775807 ∧ Acts w w.heap.size AA N acts ∧ ∀ x ∈ acts, ActOk w w.heap.size x := by
  rcases Go.Deep.open_slice Try.underlying43 hd with ⟨rfl, _⟩ | ⟨a, len, cap, m, n, D, Pl, rfl, hb, hl, hm, hmm, _, hel⟩
  · exact ⟨none, 0, 0, [], rfl, by omega, ⟨rfl, fun h => by omega⟩, fun x hx => by simp at hx⟩
  · have hml : len ≤ m := by rw [hmm]; split <;> omega
    have h5 : Try.prog.cellsOf 45 = 3 := by kernel_rfl
    rw [h5] at hel
    unfold maxLen at hm
    have hspot : 0 < len → a.spot = none := by
      intro h0
      obtain ⟨cs', h1, h2⟩ := hel 0 (by omega)
      obtain ⟨_, _, hat⟩ := World.cells?_some h1
      obtain ⟨x, rfl, hok⟩ := open_act h2
      have c0 := World.cell?_spot ((hat 0 (by omega)).trans rfl)
      simpa [Addr.add] using c0
    have key : ∀ i, i < len → ∃ x : ActV, ActOk w w.heap.size x ∧ ∃ b o, a = ⟨b, o, none⟩ ∧ b < w.heap.size ∧ ActAt w b (o + i * 3) x := by
      intro i hi
      obtain ⟨cs', h1, h2⟩ := hel i (by omega)
      obtain ⟨_, _, hat⟩ := World.cells?_some h1
      obtain ⟨x, rfl, hok⟩ := open_act h2
      obtain ⟨b, o, sp⟩ := a
      have hsp' : sp = none := hspot (by omega)
      subst hsp'
      have cell : ∀ j v, j < 3 → ([Value.int .i64 x.kind, .int .i64 x.n, .slice x.A x.bs.length x.c] : List Value)[j]? = some v → w.cell? ⟨b, o + i * 3 + j, none⟩ = some v := by
        intro j v hj hv
        have := hat j hj
        rw [add_off, add_off] at this
        rw [this, hv]
      refine ⟨x, hok, b, o, rfl, ?_, ?_⟩
      · have := World.block_lt_of_cell? w _ (cell 0 _ (by omega) rfl)
        exact this
      · exact ⟨cell 0 _ (by omega) rfl, cell 1 _ (by omega) rfl, cell 2 _ (by omega) rfl⟩
    obtain ⟨l, hll, hlp⟩ := list_of len key
    refine ⟨some a, len, cap, l, rfl, by omega, ⟨hll, fun h0 => ?_⟩, fun x hx => ?_⟩
    · obtain ⟨x0, _, b, o, rfl, hb0, _⟩ := key 0 h0
      refine ⟨b, o, rfl, hb0, fun k x hx => ?_⟩
      obtain ⟨_, b', o', he, _, hat⟩ := hlp k x hx
      simp only [Addr.mk.injEq] at he
      obtain ⟨rfl, rfl, _⟩ := he
      exact hat
    · obtain ⟨k, hk⟩ := List.getElem?_of_mem hx
      exact (hlp k x hk).1
end
end Go.Proofs.Ytjcnaefgffnphaa
