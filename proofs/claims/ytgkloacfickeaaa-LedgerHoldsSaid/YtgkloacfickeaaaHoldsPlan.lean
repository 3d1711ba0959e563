/- LedgerHolds: what each call of the law answers, one behind the other. -/
import Derived.Test.YtgkloacfickeaaaHoldsOps
namespace Go.Proofs.Ytgkloacfickeaaa
open Go.RowKit
set_option linter.unusedVariables false

section
variable (p base b9 b0 : Nat) (u : Value) (a n al : Int) (es0 : List Ent)
def Tells (f : Nat) (es : List Ent) (x y z e : Int) : Prop :=
  ∀ W : World, St W base p b9 b0 u a n al es0 es → Calls Try.prog f #[.pointer (some ⟨p, 0, none⟩), .int .u64 a] W fun r w' =>
    r = .returned (.tuple #[.agg #[.int .u64 x, .int .u64 y, .int .u64 z], .int .i64 e]) ∧ St w' base p b9 b0 u a n al es0 es ∧ Below base W w'
def Frees (es : List Ent) (m : Int) (b : Bool) : Prop :=
  ∀ W : World, St W base p b9 b0 u a n al es0 es → Calls Try.prog 17 #[.pointer (some ⟨p, 0, none⟩), .int .u64 a, .int .u64 m] W fun r w' =>
    r = .returned (.bool b) ∧ St w' base p b9 b0 u a n al es0 es ∧ Below base W w'
def Adds (es es' : List Ent) (e : Int) : Prop :=
  ∀ W : World, St W base p b9 b0 u a n al es0 es → Calls Try.prog 18 #[.pointer (some ⟨p, 0, none⟩), .agg #[.int .u64 a, .int .u64 n, .int .u64 al]] W fun r w' =>
    r = .returned (.int .i64 e) ∧ St w' base p b9 b0 u a n al es0 es' ∧ Below base W w'
def Alls (es : List Ent) : Prop :=
  ∀ W : World, St W base p b9 b0 u a n al es0 es → Calls Try.prog 9 #[.pointer (some ⟨p, 0, none⟩)] W fun r w' =>
    (∃ A c, r = .returned (.slice A es0.length c) ∧ (blks es = blks es0 → w'.ownsRow W.heap.size 35 3 (.slice A es0.length c) es0.length (blks es0))) ∧ St w' base p b9 b0 u a n al es0 es ∧ Below base W w'
end

theorem tells_free {p base b9 b0 : Nat} {u : Value} {es es0 : List Ent} {i : Nat} {e : Ent} (hs : Fit es) (hle : es.length ≤ 100) (he : es[i]? = some e) (hh : e.h = false) : Tells p base b9 b0 u e.a e.n e.al es0 13 es e.a e.n e.al 0 := by
  intro W hS
  have h := st_at hs hle (at_hit hs.rising he) hS
  simp only [tA, tN, tL, tE, hh] at h
  exact h
theorem tells_held {p base b9 b0 : Nat} {u : Value} {es es0 : List Ent} {i : Nat} {e : Ent} (hs : Fit es) (hle : es.length ≤ 100) (he : es[i]? = some e) (hh : e.h = true) : Tells p base b9 b0 u e.a e.n e.al es0 13 es 0 0 0 7 := by
  intro W hS
  have h := st_at hs hle (at_hit hs.rising he) hS
  simp only [tA, tN, tL, tE, hh] at h
  exact h
theorem tells_in {p base b9 b0 : Nat} {u : Value} {es es0 : List Ent} {i : Nat} {e : Ent} (hs : Fit es) (hle : es.length ≤ 100) (he : es[i]? = some e) (hh : e.h = true) : Tells p base b9 b0 u e.a e.n e.al es0 16 es 0 0 0 7 := by
  intro W hS
  have h := st_in hs hle (in_hit hs he) hS
  simp only [tA, tN, tL, tE, hh] at h
  exact h

set_option maxHeartbeats 1000000 in
theorem plan {es : List Ent} {i : Nat} {e : Ent} (hs : Fit es) (hle : es.length ≤ 100) (he : es[i]? = some e) (p base b9 b0 : Nat) (u : Value) :
    ∃ (es1 es2 es3 es4 es5 es6 es7 : List Ent) (r1 : Int),
      OneCall 14 es es1 r1 p base b9 b0 u e.a e.n e.al es ∧ Tells p base b9 b0 u e.a e.n e.al es 13 es1 e.a e.n e.al 0 ∧ OneCall 15 es1 es2 0 p base b9 b0 u e.a e.n e.al es ∧ OneCall 15 es2 es3 7 p base b9 b0 u e.a e.n e.al es ∧
      Tells p base b9 b0 u e.a e.n e.al es 13 es3 0 0 0 7 ∧ Tells p base b9 b0 u e.a e.n e.al es 16 es3 0 0 0 7 ∧ Frees p base b9 b0 u e.a e.n e.al es es3 1 false ∧ Adds p base b9 b0 u e.a e.n e.al es es3 es3 6 ∧ Alls p base b9 b0 u e.a e.n e.al es es3 ∧
      OneCall 14 es3 es4 0 p base b9 b0 u e.a e.n e.al es ∧ OneCall 14 es4 es5 8 p base b9 b0 u e.a e.n e.al es ∧ OneCall 19 es5 es6 0 p base b9 b0 u e.a e.n e.al es ∧ OneCall 19 es6 es6 5 p base b9 b0 u e.a e.n e.al es ∧
      Tells p base b9 b0 u e.a e.n e.al es 13 es6 0 0 0 5 ∧ Frees p base b9 b0 u e.a e.n e.al es es6 (max e.n 1) true ∧ Adds p base b9 b0 u e.a e.n e.al es es6 es7 0 ∧ Alls p base b9 b0 u e.a e.n e.al es es7 ∧ blks es7 = blks es := by
  obtain ⟨m0, m1, m2, m3, m4⟩ := hs.mem he
  obtain ⟨_, _, l0, hmay⟩ := hs.each e (List.mem_of_getElem? he)
  have hbd := (mayB_bd hmay).2.2.2
  -- let
  have f1 := fit_turn hs he false
  have e1 := set_at he (e.turned false)
  have n1 : (es.set i (e.turned false)).length = es.length := List.length_set ..
  obtain ⟨es1, q1⟩ : ∃ x, es.set i (e.turned false) = x := ⟨_, rfl⟩
  have o1 := one_let (p := p) (base := base) (b9 := b9) (b0 := b0) (u := u) (n := e.n) (al := e.al) (es0 := es) hs hle he rfl
  have z1 : blks es1 = blks es := q1 ▸ blks_turned he false
  rw [q1] at f1 e1 n1 o1
  -- held
  have f2 := fit_turn f1 e1 true
  have e2 := set_at e1 ((e.turned false).turned true)
  have n2 : (es1.set i ((e.turned false).turned true)).length = es1.length := List.length_set ..
  have o2 := one_hold (p := p) (base := base) (b9 := b9) (b0 := b0) (u := u) (a := e.a) (n := e.n) (al := e.al) (es0 := es) f1 (by omega) e1 rfl
  have z2 : blks (es1.set i ((e.turned false).turned true)) = blks es1 := blks_turned e1 true
  obtain ⟨es2, q2⟩ : ∃ x, es1.set i ((e.turned false).turned true) = x := ⟨_, rfl⟩
  rw [q2] at f2 e2 n2 o2 z2
  -- held again
  have f3 := fit_turn f2 e2 true
  have e3 := set_at e2 (((e.turned false).turned true).turned true)
  have n3 : (es2.set i (((e.turned false).turned true).turned true)).length = es2.length := List.length_set ..
  have o3 := one_hold (p := p) (base := base) (b9 := b9) (b0 := b0) (u := u) (a := e.a) (n := e.n) (al := e.al) (es0 := es) f2 (by omega) e2 rfl
  have z3 : blks (es2.set i (((e.turned false).turned true).turned true)) = blks es2 := blks_turned e2 true
  obtain ⟨es3, q3⟩ : ∃ x, es2.set i (((e.turned false).turned true).turned true) = x := ⟨_, rfl⟩
  rw [q3] at f3 e3 n3 o3 z3
  have t3 := tells_held (p := p) (base := base) (b9 := b9) (b0 := b0) (u := u) (es0 := es) f3 (by omega) e3 rfl
  have i3 := tells_in (p := p) (base := base) (b9 := b9) (b0 := b0) (u := u) (es0 := es) f3 (by omega) e3 rfl
  -- let
  have f4 := fit_turn f3 e3 false
  have e4 := set_at e3 ((((e.turned false).turned true).turned true).turned false)
  have n4 : (es3.set i ((((e.turned false).turned true).turned true).turned false)).length = es3.length := List.length_set ..
  have o4 := one_let (p := p) (base := base) (b9 := b9) (b0 := b0) (u := u) (a := e.a) (n := e.n) (al := e.al) (es0 := es) f3 (by omega) e3 rfl
  have z4 : blks (es3.set i ((((e.turned false).turned true).turned true).turned false)) = blks es3 := blks_turned e3 false
  obtain ⟨es4, q4⟩ : ∃ x, es3.set i ((((e.turned false).turned true).turned true).turned false) = x := ⟨_, rfl⟩
  rw [q4] at f4 e4 n4 o4 z4
  -- let again
  have f5 := fit_turn f4 e4 false
  have e5 := set_at e4 (((((e.turned false).turned true).turned true).turned false).turned false)
  have n5 : (es4.set i (((((e.turned false).turned true).turned true).turned false).turned false)).length = es4.length := List.length_set ..
  have o5 := one_let (p := p) (base := base) (b9 := b9) (b0 := b0) (u := u) (a := e.a) (n := e.n) (al := e.al) (es0 := es) f4 (by omega) e4 rfl
  have z5 : blks (es4.set i (((((e.turned false).turned true).turned true).turned false).turned false)) = blks es4 := blks_turned e4 false
  obtain ⟨es5, q5⟩ : ∃ x, es4.set i (((((e.turned false).turned true).turned true).turned false).turned false) = x := ⟨_, rfl⟩
  rw [q5] at f5 e5 n5 o5 z5
  -- dropped
  have f6 : Fit (es5.eraseIdx i) := fit_erase f5 i
  have n6 : (es5.eraseIdx i).length ≤ es5.length := by rw [List.length_eraseIdx]; split <;> omega
  have ff3 : freeB es3 e.a 1 = false := by have h := free_there f3 e3; exact h
  have aa3 : addS es3 e.a e.n e.al = (6, es3) := by have h := add_there f3 e3; exact h
  have at6 : atO (es5.eraseIdx i) e.a = none := by have h := at_gone f5.rising e5; exact h
  have ff6 : freeB (es5.eraseIdx i) e.a (max e.n 1) = true := by have h := free_gone f5 e5; exact h
  have aa6 : addS (es5.eraseIdx i) e.a e.n e.al = (0, putAt (es5.eraseIdx i) i ⟨e.a, e.n, e.al, false⟩) := by have h := add_gone f5 e5; exact h
  have zz : blks (es5.set i ⟨e.a, e.n, e.al, false⟩) = blks es5 := by have h := blks_set e5 false; exact h
  have t1 := tells_free (p := p) (base := base) (b9 := b9) (b0 := b0) (u := u) (es0 := es) f1 (by omega) e1 rfl
  have d5 : eachS dropA es5 [e.a] = (0, es5.eraseIdx i) := by have h := drop_hit f5.rising e5; exact h
  have d6 : eachS dropA (es5.eraseIdx i) [e.a] = (5, es5.eraseIdx i) := by have h := drop_miss f5.rising e5; exact h
  have o6 := one_drop (p := p) (base := base) (b9 := b9) (b0 := b0) (u := u) (a := e.a) (n := e.n) (al := e.al) (es0 := es) f5 (by omega) d5
  have o7 := one_drop (p := p) (base := base) (b9 := b9) (b0 := b0) (u := u) (a := e.a) (n := e.n) (al := e.al) (es0 := es) f6 (by omega) d6
  refine ⟨es1, es2, es3, es4, es5, es5.eraseIdx i, putAt (es5.eraseIdx i) i ⟨e.a, e.n, e.al, false⟩, _, o1, t1, o2, o3, t3, i3, ?_, ?_, ?_, o4, o5, o6, o7, ?_, ?_, ?_, ?_, ?_⟩
  · exact fun W hS => st_free f3 (by omega) ff3 hS (by omega) (by omega) (by omega) (by omega)
  · exact fun W hS => st_add f3 (by omega) aa3 hS (by omega) (by omega) (by omega) (by omega) (by omega) (by omega)
  · intro W hS
    refine (st_all (by omega) hS).mono fun r w' k => ?_
    obtain ⟨⟨A, c, k1, k2⟩, k3, k4⟩ := k
    have hl : es3.length = es.length := by omega
    rw [hl] at k1 k2
    exact ⟨⟨A, c, k1, fun hb => hb ▸ k2⟩, k3, k4⟩
  · intro W hS
    have h := st_at f6 (by omega) at6 hS
    exact h
  · exact fun W hS => st_free f6 (by omega) ff6 hS (by omega) (by omega) (by omega) (by omega)
  · exact fun W hS => st_add f6 (by omega) aa6 hS (by omega) (by omega) (by omega) (by omega) (by omega) (by omega)
  · intro W hS
    have hl : (putAt (es5.eraseIdx i) i ⟨e.a, e.n, e.al, false⟩).length = es.length := by rw [put_gone e5, List.length_set]; omega
    refine (st_all (by exact hl ▸ hle) hS).mono fun r w' k => ?_
    obtain ⟨⟨A, c, k1, k2⟩, k3, k4⟩ := k
    rw [hl] at k1 k2
    exact ⟨⟨A, c, k1, fun hb => hb ▸ k2⟩, k3, k4⟩
  · show blks (putAt (es5.eraseIdx i) i ⟨e.a, e.n, e.al, false⟩) = _
    rw [put_gone e5]
    exact (((zz.trans z5).trans z4).trans z3).trans (z2.trans z1)
end Go.Proofs.Ytgkloacfickeaaa
