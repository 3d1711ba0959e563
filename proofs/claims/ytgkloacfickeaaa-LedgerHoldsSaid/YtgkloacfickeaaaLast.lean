/- A region whose last operation waits for all others: the others may come up in whatever order under a condition that the last one need not keep. -/
import Derived.Test.YtgkloacfickeaaaRefRow
import Derived.Deep.RegionHeld3
namespace Go.Proofs.Ytgkloacfickeaaa
open Go.RowKit
set_option linter.unusedVariables false

section
variable {P : Program} {ops : Array Oper} {md : Region.Mode}
theorem upon_atEnd {o : Oper} {a : Act} {next : Act → World → Prop} {X R : Act → World → Prop} {r : Result Next} (h : o.upon P a next (AtEnd X) r) : o.upon P a next (AtEnd R) r := by
  unfold Oper.upon at h ⊢
  split at h <;> exact h
theorem wpOp_atEnd {i : Nat} {K : Act → World → Prop} {a : Act} {w : World} {X R : Act → World → Prop} (h : wpOp P ops (AtEnd X) i K a w) : wpOp P ops (AtEnd R) i K a w := by
  unfold wpOp at h ⊢
  cases ho : ops[i]? with
  | none => rw [ho] at h; exact h
  | some o =>
    rw [ho] at h
    simp only at h ⊢
    split at h
    · rw [if_pos (by assumption)]
      rcases h with h | h
      · exact .inl (upon_atEnd h)
      · exact .inr h
    · rw [if_neg (by assumption)]
      exact h

/-- Every operation waits for earlier ones alone; the last one for all, at once or through another. -/
def backward (md : Region.Mode) (ops : Array Oper) (l : Nat) : Bool :=
  ops.size == l + 1 && (List.range ops.size).all (fun j => (ops[j]?.map fun o => o.after.toList.all fun e => decide (e.on < j)).getD true) &&
    (List.range l).all fun j => (ops[l]?.map fun o => o.after.toList.any fun e => Region.binds md e &&
      (e.on == j || (e.on != l && (ops[e.on]?.map fun o' => o'.after.toList.any fun e' => e'.on == j && Region.binds md e').getD false))).getD false

/-- What is listed has all that it waits for listed, but the last one. -/
def Shut' (md : Region.Mode) (ops : Array Oper) (l : Nat) (L : Array Bool) : Prop :=
  ∀ (k : Nat) (o : Oper), ops[k]? = some o → k ≠ l → L.getD k false = true → ∀ e ∈ o.after, Region.binds md e = true → L.getD e.on false = true

theorem getD_sized {L : Array Bool} {j : Nat} (h : j < L.size) : L.getD j true = L.getD j false := by simp [Array.getD, h]

theorem wpAny_last {l : Nat} (hb : backward md ops l = true) {R : Act → World → Prop} :
    ∀ (fuel : Nat) (L : Array Bool) (a : Act) (w : World), L.size = ops.size → L.getD l true = false → Shut' md ops l L →
      wpAny P md ops (AtEnd (wpOp P ops (AtEnd R) l R)) fuel (L.setIfInBounds l true) a w → wpAny P md ops (AtEnd R) (fuel + 1) L a w := by
  simp only [backward, Bool.and_eq_true, List.all_eq_true, List.mem_range, beq_iff_eq] at hb
  obtain ⟨⟨hsz, hback⟩, hall⟩ := hb
  have back : ∀ (j : Nat) (o : Oper), ops[j]? = some o → ∀ e ∈ o.after, e.on < j := by
    intro j o ho e he
    have hj : j < ops.size := (Array.getElem?_eq_some_iff.1 ho).1
    have h := hback j hj
    rw [ho] at h
    simp only [Option.map_some, Option.getD_some, List.all_eq_true, decide_eq_true_eq] at h
    exact h e (by simpa using he)
  obtain ⟨ol, hol⟩ : ∃ ol, ops[l]? = some ol := ⟨ops[l]'(by omega), by simp [show l < ops.size by omega]⟩
  have waits : ∀ j, j < l → ∃ e ∈ ol.after, Region.binds md e = true ∧ (e.on = j ∨ (e.on ≠ l ∧ ∃ o', ops[e.on]? = some o' ∧ ∃ e' ∈ o'.after, e'.on = j ∧ Region.binds md e' = true)) := by
    intro j hj
    have h := hall j hj
    rw [hol] at h
    simp only [Option.map_some, Option.getD_some, List.any_eq_true, Bool.and_eq_true, Bool.or_eq_true, beq_iff_eq, bne_iff_ne] at h
    obtain ⟨e, he, h1, h2⟩ := h
    refine ⟨e, by simpa using he, h1, h2.imp id fun ⟨h3, h4⟩ => ⟨h3, ?_⟩⟩
    cases ho : ops[e.on]? with
    | none => rw [ho] at h4; simp at h4
    | some o' =>
      rw [ho] at h4
      simp only [Option.map_some, Option.getD_some, List.any_eq_true, Bool.and_eq_true, beq_iff_eq] at h4
      obtain ⟨e', he', h5, h6⟩ := h4
      exact ⟨o', rfl, e', by simpa using he', h5, h6⟩
  have setD : ∀ (L : Array Bool) (i j : Nat) (d : Bool), i ≠ j → (L.setIfInBounds i true).getD j d = L.getD j d := fun L i j d h => getD_set_ne d h
  have rdy : ∀ (L : Array Bool) (j : Nat), j ≠ l → (j ∈ Region.ready md ops (L.setIfInBounds l true) ↔ j ∈ Region.ready md ops L) := by
    intro L j hj
    rw [mem_ready, mem_ready, setD L l j true (Ne.symm hj)]
    refine and_congr Iff.rfl ⟨?_, ?_⟩
    · rintro ⟨o, ho, h⟩
      refine ⟨o, ho, fun e he hbi => ?_⟩
      have h1 := back j o ho e he
      have hjs : j < ops.size := (Array.getElem?_eq_some_iff.1 ho).1
      rw [← setD L l e.on false (by omega)]
      exact h e he hbi
    · rintro ⟨o, ho, h⟩
      refine ⟨o, ho, fun e he hbi => ?_⟩
      have h1 := back j o ho e he
      have hjs : j < ops.size := (Array.getElem?_eq_some_iff.1 ho).1
      rw [setD L l e.on false (by omega)]
      exact h e he hbi
  have none_l : ∀ L : Array Bool, L.size = ops.size → l ∉ Region.ready md ops (L.setIfInBounds l true) := by
    intro L hL h
    have := (mem_ready.1 h).1
    simp [Array.getD, show l < L.size by omega] at this
  -- where none but the last is left, it may come up
  have stuck : ∀ L : Array Bool, L.size = ops.size → L.getD l true = false → Region.ready md ops (L.setIfInBounds l true) = [] → l ∈ Region.ready md ops L := by
    intro L hL hl hr
    have allOn : ∀ j, j < l → L.getD j false = true := by
      intro j
      induction j using Nat.strongRecOn with
      | _ j ih =>
        intro hj
        cases hg : L.getD j false with
        | true => rfl
        | false =>
          exfalso
          have hjs : j < ops.size := by omega
          have : j ∈ Region.ready md ops L := by
            rw [mem_ready]
            refine ⟨(getD_sized (by omega)).trans hg, ops[j], by simp [hjs], fun e he _ => ?_⟩
            have h1 := back j ops[j] (by simp [hjs]) e he
            exact ih e.on h1 (by omega)
          rw [← rdy L j (by omega), hr] at this
          cases this
    rw [mem_ready]
    refine ⟨hl, ol, hol, fun e he _ => allOn e.on (back l ol hol e he)⟩
  have only : ∀ L : Array Bool, L.size = ops.size → Shut' md ops l L → l ∈ Region.ready md ops L → Region.ready md ops (L.setIfInBounds l true) = [] := by
    intro L hL hsh hl
    rw [List.eq_nil_iff_forall_not_mem]
    intro j hj
    by_cases hjl : j = l
    · subst hjl; exact none_l L hL hj
    · have h1 := (rdy L j hjl).1 hj
      obtain ⟨h2, o, ho, _⟩ := mem_ready.1 h1
      have hjs : j < ops.size := (Array.getElem?_eq_some_iff.1 ho).1
      obtain ⟨_, o', ho', h3⟩ := mem_ready.1 hl
      rw [hol] at ho'
      cases ho'
      have h4 : L.getD j false = true := by
        obtain ⟨e, he, hbi, h5⟩ := waits j (by omega)
        rcases h5 with rfl | ⟨hne, o', ho', e', he', rfl, hbi'⟩
        · exact h3 e he hbi
        · exact hsh e.on o' ho' hne (h3 e he hbi) e' he' hbi'
      rw [← getD_sized (by omega), h2] at h4
      cases h4
  have atLast : ∀ (f : Nat) (L : Array Bool) (a : Act) (w : World), L.size = ops.size → Shut' md ops l L → l ∈ Region.ready md ops L → wpOp P ops (AtEnd R) l R a w → wpOp P ops (AtEnd R) l (wpAny P md ops (AtEnd R) f (L.setIfInBounds l true)) a w := by
    intro f L a w hL hsh hl h
    refine wpOp_mono (fun a' w' hq => ?_) h
    have hr := only L hL hsh hl
    cases f with
    | zero => exact ⟨hr, hq⟩
    | succ f => exact ⟨fun _ => hq, by rw [hr]; simp⟩
  intro fuel
  induction fuel with
  | zero =>
    intro L a w hL hl hsh h
    have hlr := stuck L hL hl h.1
    refine ⟨fun h0 => (by rw [h0] at hlr; cases hlr), fun i hi => ?_⟩
    by_cases hil : i = l
    · subst hil; exact atLast 0 L a w hL hsh hi h.2
    · have h1 := (rdy L i hil).2 hi
      rw [h.1] at h1
      cases h1
  | succ fuel ih =>
    intro L a w hL hl hsh h
    refine ⟨fun h0 => ?_, fun i hi => ?_⟩
    · have hr : Region.ready md ops (L.setIfInBounds l true) = [] := by
        rw [List.eq_nil_iff_forall_not_mem]
        intro j hj
        by_cases hjl : j = l
        · subst hjl; exact none_l L hL hj
        · have h1 := (rdy L j hjl).1 hj
          rw [h0] at h1
          cases h1
      have := stuck L hL hl hr
      rw [h0] at this
      cases this
    · by_cases hil : i = l
      · subst hil
        exact atLast (fuel + 1) L a w hL hsh hi (h.1 (only L hL hsh hi))
      · have h1 := h.2 i ((rdy L i hil).2 hi)
        refine wpOp_mono (fun a' w' h2 => ?_) (wpOp_atEnd h1)
        refine ih (L.setIfInBounds i true) a' w' (by simpa using hL) ((setD L i l true hil).trans hl) ?_ ?_
        · intro k o hk hkl hkt e he hbi
          by_cases hke : e.on = i
          · rw [hke]; simp [show i < L.size from hL ▸ (Array.getElem?_eq_some_iff.1 (mem_ready.1 hi).2.choose_spec.1).1]
          · rw [setD L i e.on false (Ne.symm hke)]
            by_cases hki : k = i
            · subst hki
              obtain ⟨_, o', ho', h3⟩ := mem_ready.1 hi
              rw [hk] at ho'
              cases ho'
              exact h3 e he hbi
            · rw [setD L i k false (Ne.symm hki)] at hkt
              exact hsh k o hk hkl hkt e he hbi
        rw [Array.setIfInBounds_comm _ _ (Ne.symm hil)] at h2
        exact h2

/-- The beginning: the last operation is put off, the others are to come up under S. -/
theorem wp_region_last {id l : Nat} {a : Act} {w : World} {S : World → Prop} {R : Act → World → Prop} {L : Array Bool} (hm : P.follows .mixedOrders = true) (hb : backward .any ops l = true)
    (hL : (Array.replicate ops.size false).setIfInBounds l true = L) (hn : ops.size = l + 1) (hS : S w.drew)
    (h : S w.drew → wpAnyH P .any ops (AtEnd (wpOp P ops (AtEnd R) l R)) S l L a w.drew) : (Code.region id ops true).wp P (AtEnd R) a w := by
  refine wp_region_any hm ?_
  have h1 := wpAny_of_held _ _ _ _ (h hS)
  rw [← hL] at h1
  have h2 := wpAny_last hb l (Array.replicate ops.size false) a w.drew (by simp) (by simp [Array.getD, hn]) (fun k o _ _ hk => by simp [Array.getD] at hk) h1
  rw [← hn] at h2
  exact h2
end
end Go.Proofs.Ytgkloacfickeaaa
