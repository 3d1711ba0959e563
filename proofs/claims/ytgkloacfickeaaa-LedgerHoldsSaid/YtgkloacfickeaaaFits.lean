/- Through whatever acts the entries stay apart. -/
import Derived.Test.YtgkloacfickeaaaRefEach
namespace Go.Proofs.Ytgkloacfickeaaa
open Go.RowKit
set_option linter.unusedVariables false

theorem fit_put {es : List Ent} {a n al : Int} (h : Fit es) (a0 : 0 ≤ a) (n0 : 0 ≤ n) (l0 : 0 ≤ al) (hm : mayB a n al = true) (hf : freeB es a (max n 1) = true) : Fit (putAt es (lb es a) ⟨a, n, al, false⟩) := by
  have hfree : ∀ e ∈ es, ¬ (a ≤ e.a + max e.n 1 - 1 ∧ e.a ≤ a + (max n 1 - 1)) := by
    unfold freeB at hf
    rw [decide_eq_true_eq] at hf
    exact hf.2 (by omega)
  have hb : ∀ x ∈ es.take (lb es a), x.a + max x.n 1 ≤ a := by
    intro x hx
    obtain ⟨j, hj⟩ := List.getElem?_of_mem hx
    rw [List.getElem?_take] at hj
    split at hj
    · rename_i hl
      have h1 := lb_lt hj hl
      have h2 := hfree x (List.mem_of_getElem? hj)
      omega
    · simp at hj
  have ha : ∀ y ∈ es.drop (lb es a), a + max n 1 ≤ y.a := by
    intro y hy
    obtain ⟨j, hj⟩ := List.getElem?_of_mem hy
    rw [List.getElem?_drop] at hj
    have h1 := lb_ge h.rising hj (Nat.le_add_right _ _)
    have h2 := hfree y (List.mem_of_getElem? hj)
    omega
  refine ⟨?_, fun e he => ?_⟩
  · unfold putAt
    rw [List.pairwise_append]
    have hp := h.apart
    rw [← List.take_append_drop (lb es a) es, List.pairwise_append] at hp
    refine ⟨hp.1, List.pairwise_cons.2 ⟨fun y hy => ha y hy, hp.2.1⟩, fun x hx y hy => ?_⟩
    rcases List.mem_cons.1 hy with rfl | hy
    · exact hb x hx
    · exact hp.2.2 x hx y hy
  · unfold putAt at he
    rcases List.mem_append.1 he with he | he
    · exact h.each e (List.mem_of_mem_take he)
    · rcases List.mem_cons.1 he with rfl | he
      · exact ⟨a0, n0, l0, hm⟩
      · exact h.each e (List.mem_of_mem_drop he)
theorem fit_add {es : List Ent} {a n al : Int} (h : Fit es) (a0 : 0 ≤ a) (n0 : 0 ≤ n) (l0 : 0 ≤ al) : Fit (addS es a n al).2 ∧ (addS es a n al).2.length ≤ es.length + 1 := by
  unfold addS
  split
  · split
    · exact ⟨fit_put h a0 n0 l0 (by assumption) (by assumption), by rw [length_putAt]; exact Nat.le_refl _⟩
    · exact ⟨h, Nat.le_succ _⟩
  · exact ⟨h, Nat.le_succ _⟩
theorem fit_eachS {act : List Ent → Nat → Int × List Ent} (hact : ∀ es i, Fit es → found es i = true → Fit (act es (lb es i)).2 ∧ (act es (lb es i)).2.length ≤ es.length) :
    ∀ (l : List Int) (es : List Ent), Fit es → Fit (eachS act es l).2 ∧ (eachS act es l).2.length ≤ es.length
  | [], es, h => ⟨h, Nat.le_refl _⟩
  | t :: l, es, h => by
    unfold eachS
    split
    · rename_i hf
      have h1 := hact es t h hf
      split
      · have h2 := fit_eachS hact l _ h1.1
        exact ⟨h2.1, Nat.le_trans h2.2 h1.2⟩
      · exact h1
    · exact ⟨h, Nat.le_refl _⟩
theorem fit_drops {es : List Ent} (h : Fit es) (l : List Int) : Fit (eachS dropA es l).2 ∧ (eachS dropA es l).2.length ≤ es.length :=
  fit_eachS (fun es i h _ => ⟨fit_erase h _, by unfold dropA; rw [List.length_eraseIdx]; split <;> omega⟩) l es h
theorem fit_turns {es : List Ent} (h : Fit es) (held : Bool) (no : Int) (l : List Int) : Fit (eachS (turnA held no) es l).2 ∧ (eachS (turnA held no) es l).2.length ≤ es.length :=
  fit_eachS (fun es i h hf => by
    obtain ⟨e, he, _⟩ := found_some hf
    rw [turnA_some he]
    exact ⟨fit_turn h he held, by rw [List.length_set]; exact Nat.le_refl _⟩) l es h
theorem fit_nil : Fit [] := ⟨List.Pairwise.nil, fun e he => by simp at he⟩

theorem AdsB.keep {w w' : World} {base n : Nat} {A : Option Addr} {xs : List Int} (h : AdsB w base A n xs) (hb : Below base w w') : AdsB w' base A n xs :=
  ⟨h.1, fun hn => by
    obtain ⟨ad, e, had, hc⟩ := h.2 hn
    exact ⟨ad, e, had, fun j t ht => (hb.cell (p := ad.add j) (by rw [block_of_add]; exact had)).trans (hc j t ht)⟩⟩
theorem AdsB.ads {w : World} {base n p : Nat} {v : Value} {es : List Ent} {A : Option Addr} {xs : List Int} (h : AdsB w base A n xs) (hL : Led w base p v es) : Ads w (LS p v) A n xs :=
  ⟨h.1, fun hn => by
    obtain ⟨ad, e, had, hc⟩ := h.2 hn
    exact ⟨ad, e, fun hs => by have := hL.base_le hs; omega, hc⟩⟩
end Go.Proofs.Ytgkloacfickeaaa
