/- What is held, let, dropped and added again: on the entries alone. -/
import Derived.Test.YtgkloacfickeaaaFits
import Derived.Test.YtgkloacfickeaaaRefRow
namespace Go.Proofs.Ytgkloacfickeaaa
open Go.RowKit
set_option linter.unusedVariables false

section
variable {es : List Ent} {i : Nat} {e : Ent}
theorem lb_hit (hs : Rising es) (he : es[i]? = some e) : lb es e.a = i ∧ found es e.a = true := by
  have hk : i < es.length := (List.getElem?_eq_some_iff.1 he).1
  have hlb : lb es e.a = i := lb_eq (by omega) (fun j x hx hj => by have := rising_lt hs hx he hj; omega) (fun x hx => by rw [he] at hx; cases hx; omega)
  exact ⟨hlb, by unfold found; rw [hlb, he]; simp⟩
theorem at_hit (hs : Rising es) (he : es[i]? = some e) : atO es e.a = some e := by
  obtain ⟨h1, h2⟩ := lb_hit hs he
  unfold atO
  rw [h2, if_pos rfl, h1, he]
theorem in_hit (hs : Fit es) (he : es[i]? = some e) : inO es e.a = some e := inO_found hs (by rw [(lb_hit hs.rising he).1]; exact he) rfl
theorem turn_hit (hs : Rising es) (he : es[i]? = some e) (held : Bool) (no : Int) : eachS (turnA held no) es [e.a] = (turnE e held no, es.set i (e.turned held)) := by
  obtain ⟨h1, h2⟩ := lb_hit hs he
  unfold eachS
  rw [if_pos h2, h1, turnA_some he]
  split
  · rename_i h
    simp only [eachS]
    rw [show turnE e held no = 0 from h]
  · rfl
theorem drop_hit (hs : Rising es) (he : es[i]? = some e) : eachS dropA es [e.a] = (0, es.eraseIdx i) := by
  obtain ⟨h1, h2⟩ := lb_hit hs he
  unfold eachS
  rw [if_pos h2, h1]
  rfl
theorem set_at (he : es[i]? = some e) (x : Ent) : (es.set i x)[i]? = some x := by
  simp [(List.getElem?_eq_some_iff.1 he).1]
theorem erase_none (hs : Rising es) (he : es[i]? = some e) : found (es.eraseIdx i) e.a = false := by
  cases hf : found (es.eraseIdx i) e.a
  · rfl
  · obtain ⟨x, hx, ha⟩ := found_some hf
    rw [List.getElem?_eraseIdx] at hx
    split at hx
    · have := rising_lt hs hx he (by assumption); omega
    · have := rising_lt hs he hx (by omega); omega
theorem drop_miss (hs : Rising es) (he : es[i]? = some e) : eachS dropA (es.eraseIdx i) [e.a] = (5, es.eraseIdx i) := by
  unfold eachS
  rw [erase_none hs he]
  rfl
theorem at_gone (hs : Rising es) (he : es[i]? = some e) : atO (es.eraseIdx i) e.a = none := by
  unfold atO
  rw [erase_none hs he]
  rfl
theorem erase_apart (hs : Fit es) (he : es[i]? = some e) : ∀ (k : Nat) (x : Ent), (es.eraseIdx i)[k]? = some x → x.a + max x.n 1 ≤ e.a ∨ e.a + max e.n 1 ≤ x.a := by
  intro k x hx
  rw [List.getElem?_eraseIdx] at hx
  split at hx
  · exact .inl (hs.apart_at hx he (by assumption))
  · exact .inr (hs.apart_at he hx (by omega))
theorem free_gone (hs : Fit es) (he : es[i]? = some e) : freeB (es.eraseIdx i) e.a (max e.n 1) = true := by
  obtain ⟨m0, m1, m2, m3, m4⟩ := hs.mem he
  refine free_none (by omega) fun k x hx => ?_
  rcases erase_apart hs he k x hx with h | h
  · exact .inl h
  · exact .inr (by omega)
theorem lb_gone (hs : Fit es) (he : es[i]? = some e) : lb (es.eraseIdx i) e.a = i := by
  have hk : i < es.length := (List.getElem?_eq_some_iff.1 he).1
  refine lb_eq (by rw [List.length_eraseIdx]; split <;> omega) (fun k x hx hki => ?_) (fun x hx => ?_)
  · rw [List.getElem?_eraseIdx, if_pos hki] at hx
    exact rising_lt hs.rising hx he hki
  · rw [List.getElem?_eraseIdx, if_neg (by omega)] at hx
    have := rising_lt hs.rising he hx (by omega)
    omega
theorem may_of (hs : Fit es) (he : es[i]? = some e) : mayB e.a e.n e.al = true := (hs.each e (List.mem_of_getElem? he)).2.2.2
theorem add_gone (hs : Fit es) (he : es[i]? = some e) : addS (es.eraseIdx i) e.a e.n e.al = (0, putAt (es.eraseIdx i) i ⟨e.a, e.n, e.al, false⟩) := by
  unfold addS
  rw [if_pos (may_of hs he), if_pos (free_gone hs he), lb_gone hs he]
theorem add_there (hs : Fit es) (he : es[i]? = some e) : addS es e.a e.n e.al = (6, es) := by
  obtain ⟨m0, m1, m2, m3, m4⟩ := hs.mem he
  unfold addS
  rw [if_pos (may_of hs he), if_neg]
  rw [free_meets (by omega) he (by omega) (by omega)]
  simp
theorem free_there (hs : Fit es) (he : es[i]? = some e) : freeB es e.a 1 = false := free_meets (by omega) he (by omega) (by omega)
theorem put_gone (he : es[i]? = some e) (x : Ent) : putAt (es.eraseIdx i) i x = es.set i x := by
  have hk : i < es.length := (List.getElem?_eq_some_iff.1 he).1
  unfold putAt
  rw [List.eraseIdx_eq_take_drop_succ, List.set_eq_take_append_cons_drop, if_pos hk]
  have h1 : (es.take i).length = i := by rw [List.length_take]; omega
  rw [List.take_append_of_le_length (by omega), List.take_of_length_le (by omega), List.drop_append_of_le_length (by omega), List.drop_eq_nil_of_le (by omega), List.nil_append]
end

/-- The same blocks, whatever is held. -/
theorem blks_set {es : List Ent} {i : Nat} {e : Ent} (he : es[i]? = some e) (b : Bool) : blks (es.set i ⟨e.a, e.n, e.al, b⟩) = blks es := blks_turned he b
end Go.Proofs.Ytgkloacfickeaaa
