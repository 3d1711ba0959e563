/- How long the slices within acts may be. -/
import Derived.Test.YtjcnaefgffnphaaActs
import Derived.SizedLaws
namespace Go.Proofs.Ytjcnaefgffnphaa
open Go.RowKit Go.ChangeShapes Go.WideShapes Go.ChangeAt
set_option linter.unusedVariables false

section
variable {H : Type} {enc : TypeId × Value → H} {w : World} {base : Nat} {spare : Nat → Bool} {held : Bool} {fuel R : Nat} {cs : List Value} {x : DataW H × List MemPlace}
theorem weights_all {P : Program} {e : TypeId} : ∀ {l : List (DataW H)} {d : DataW H}, d ∈ l → ∀ n ∈ d.weights P e, n ∈ DataW.weightsAll P e l
  | d0 :: l, d, h, n, hn => by
    simp only [DataW.weightsAll, List.mem_append]
    rcases List.mem_cons.1 h with rfl | h
    · exact .inl hn
    · exact .inr (weights_all h n hn)
theorem bools_reach (hd : DataW.trod enc Try.prog w base spare held fuel 32 cs = some x) (hw : ∀ n ∈ x.1.weights Try.prog 32, n ≤ R) {A : Option Addr} {m c : Nat} (hcs : cs = [.slice A m c]) : m ≤ R := by
  rcases Go.Deep.open_slice Try.underlying32 hd with ⟨rfl, _⟩ | ⟨a, len, cap, m', n, D, Pl, rfl, hb, hl, hm, hmm, rfl, hel⟩
  · simp at hcs; omega
  · simp at hcs
    obtain ⟨_, rfl, _⟩ := hcs
    have h1 : Try.prog.bytesOf 4 = 1 := by kernel_rfl
    have h2 := hw ((len + (m' - len)) * Try.prog.bytesOf 4) (by simp [DataW.weights, Try.underlying32])
    rw [h1] at h2
    omega
theorem act_reach (hd : DataW.trod enc Try.prog w base spare held fuel 45 cs = some x) (hw : ∀ n ∈ x.1.weights Try.prog 45, n ≤ R) {a b : Value} {A : Option Addr} {m c : Nat} (hcs : cs = [a, b, .slice A m c]) : m ≤ R := by
  obtain ⟨fs, hu, hl⟩ := struct_of f45
  obtain ⟨xs, n, _, hx, hc, hxl, hf⟩ := DataW.trod_struct hu hd
  have hl2 : fs.toList.length = 3 := by have := congrArg List.length hl; simpa using this
  have hfs : fs.size = 3 := by simpa using hl2
  have h2 : 2 < fs.size := by omega
  have hg : (fs.toList.map fun f => (f.type, f.offset))[2]? = some (32, 2) := by rw [hl]; rfl
  rw [List.getElem?_map, Option.map_eq_some_iff] at hg
  obtain ⟨f, hf1, hf2⟩ := hg
  rw [Array.getElem?_toList] at hf1
  have h3 := hf 2 f hf1
  obtain ⟨e1, e2⟩ := Prod.mk.inj hf2
  rw [e1, e2, hcs] at h3
  have h1 : Try.prog.cellsOf 32 = 1 := by kernel_rfl
  rw [h1] at h3
  simp only [List.drop_succ_cons, List.drop_zero, List.take_succ_cons, List.take_zero] at h3
  have hxs : xs[2]? = some xs[2] := by simp [show 2 < xs.length by omega]
  rw [hxs] at h3
  refine bools_reach h3 (fun n hn => hw n ?_) rfl
  rw [hx]
  simp only [DataW.weights, hu]
  refine DataW.weights_mem_each (j := 2) (t := 32) (d := xs[2].1) ?_ ?_ n hn
  · rw [List.getElem?_map, Array.getElem?_toList, hf1]; simp [e1]
  · rw [List.getElem?_map, hxs]; rfl
theorem acts_reach {AA : Option Addr} {N C : Nat} {acts : List ActV} (hd : DataW.trod enc Try.prog w base spare held fuel 43 [.slice AA N C] = some x) (hw : ∀ n ∈ x.1.weights Try.prog 43, n ≤ R) (hA : Acts w w.heap.size AA N acts) :
    ∀ y ∈ acts, y.bs.length ≤ R := by
  intro y hy
  obtain ⟨k, hk⟩ := List.getElem?_of_mem hy
  have hkl := (List.getElem?_eq_some_iff.1 hk).1
  rw [hA.1] at hkl
  obtain ⟨b, o, rfl, _, hat⟩ := hA.2 (by omega)
  obtain ⟨_, _, hc2⟩ := hat k y hk
  rcases Go.Deep.open_slice Try.underlying43 hd with ⟨h0, _⟩ | ⟨a, len, cap, m, n, D, Pl, h0, hb, hl, hm, hmm, rfl, hel⟩
  · simp at h0
  · simp at h0
    obtain ⟨rfl, rfl, rfl⟩ := h0
    have hml : N ≤ m := by rw [hmm]; split <;> omega
    have h5 : Try.prog.cellsOf 45 = 3 := by kernel_rfl
    rw [h5] at hel
    obtain ⟨cs', h1, h2⟩ := hel k (by omega)
    obtain ⟨_, _, hat'⟩ := World.cells?_some h1
    obtain ⟨z, rfl, _⟩ := open_act h2
    have hz := hat' 2 (by omega)
    rw [add_off, add_off, hc2] at hz
    simp at hz
    obtain ⟨_, hz2, _⟩ := hz
    have := act_reach h2 (fun n hn => hw n (by
      simp only [DataW.weights, Try.underlying43, List.mem_cons, List.mem_append]
      exact .inr (.inl (weights_all (d := D k) (List.mem_map.2 ⟨k, by simp; exact hkl, rfl⟩) n hn)))) rfl
    omega
end
end Go.Proofs.Ytjcnaefgffnphaa
