/- The ledger's Free. -/
import Derived.Test.YtgkloacfickeaaaIn
namespace Go.Proofs.Ytgkloacfickeaaa
open Go.RowKit
set_option linter.unusedVariables false

/-- Do bytes meet none? -/
def freeB (es : List Ent) (a n : Int) : Bool :=
  decide (¬ (0 < n ∧ 18446744073709551616 ≤ a + (n - 1)) ∧ (0 < n → ∀ e ∈ es, ¬ (a ≤ e.a + max e.n 1 - 1 ∧ e.a ≤ a + (n - 1))))

section
variable {es : List Ent} {a n : Int}
theorem free_zero : freeB es a 0 = true := by unfold freeB; simp
theorem free_over (h : 0 < n) (h' : 18446744073709551616 ≤ a + (n - 1)) : freeB es a n = false := by unfold freeB; simp [h, h']
theorem free_meets {k : Nat} {e : Ent} (h : 0 < n) (he : es[k]? = some e) (h1 : a ≤ e.a + max e.n 1 - 1) (h2 : e.a ≤ a + (n - 1)) : freeB es a n = false := by
  unfold freeB
  rw [decide_eq_false_iff_not]
  rintro ⟨_, h3⟩
  exact h3 h e (List.mem_of_getElem? he) ⟨h1, h2⟩
theorem free_none (h' : a + (n - 1) < 18446744073709551616) (h : ∀ (k : Nat) (e : Ent), es[k]? = some e → e.a + max e.n 1 ≤ a ∨ a + (n - 1) < e.a) : freeB es a n = true := by
  unfold freeB
  rw [decide_eq_true_eq]
  refine ⟨by omega, fun _ e he => ?_⟩
  obtain ⟨k, hk⟩ := List.getElem?_of_mem he
  rcases h k e hk with h | h <;> omega
/-- Where nothing begins at a, and the one ahead ends by a, the next one decides. -/
theorem free_next (hs : Fit es) (hn : 0 < n) (h' : a + (n - 1) < 18446744073709551616) (hf : found es a = false) (hprev : ∀ k e, lb es a = k + 1 → es[k]? = some e → e.a + max e.n 1 ≤ a) :
    (∀ e, es[lb es a]? = some e → freeB es a n = decide (a + (n - 1) < e.a)) ∧ (es.length ≤ lb es a → freeB es a n = true) := by
  have before : ∀ (k : Nat) (e : Ent), es[k]? = some e → k < lb es a → e.a + max e.n 1 ≤ a := by
    intro k e he hk
    by_cases h1 : lb es a = k + 1
    · exact hprev k e h1 he
    · obtain ⟨m, hm⟩ : ∃ m, lb es a = m + 1 := ⟨lb es a - 1, by omega⟩
      have hml : m < es.length := by have := lb_le es a; omega
      have := hprev m es[m] hm (by simp [hml])
      have := hs.apart_at he (List.getElem?_eq_getElem hml) (by omega)
      omega
  refine ⟨fun e he => ?_, fun hl => free_none h' fun k e he => .inl (before k e he ?_)⟩
  · by_cases h : a + (n - 1) < e.a
    · rw [free_none h' fun k x hx => ?_, decide_eq_true h]
      by_cases hk : k < lb es a
      · exact .inl (before k x hx hk)
      · by_cases hkl : k = lb es a
        · subst hkl; rw [he] at hx; cases hx; exact .inr h
        · have := rising_lt hs.rising he hx (by omega); exact .inr (by omega)
    · have := lb_gt hs.rising hf he (Nat.le_refl _)
      rw [free_meets hn he (by omega) (by omega)]
      simp; omega
  · have := (List.getElem?_eq_some_iff.1 he).1; omega
end

set_option maxHeartbeats 1000000 in
theorem free_any (p base : Nat) (v : Value) (es : List Ent) (a n : Int) (w : World) (hlen : es.length ≤ 1000000) (hs : Fit es) (hL : Led w base p v es)
    (a0 : 0 ≤ a) (a1 : a ≤ 18446744073709551615) (n0 : 0 ≤ n) (n1 : n ≤ 18446744073709551615) :
    Calls Try.prog 17 #[.pointer (some ⟨p, 0, none⟩), .int .u64 a, .int .u64 n] w fun r w' => r = .returned (.bool (freeB es a n)) ∧ Below w.heap.size w w' := by
  by_cases hn : n = 0
  · subst hn
    rw [free_zero]
    clear hL
    go_enter Try.func17, Try.ntmps17
    go_wp2
    go_ret
    exact ⟨rfl, Below.refl _ _⟩
  have hn1 : 1 ≤ n := by omega
  have hnb : (n == 0) = false := by simpa using hn
  by_cases hov : 18446744073709551616 ≤ a + (n - 1)
  · rw [free_over (by omega) hov]
    have hw : IntKind.u64.wrap (a + (n - 1)) < a := by simp [IntKind.wrap, IntKind.bits, IntKind.signed]; omega
    clear hL
    go_enter Try.func17, Try.ntmps17
    go_wp2
    go_ret
    exact ⟨rfl, Below.refl _ _⟩
  have H := place_any p base v es a w hlen hs.rising hL
  obtain ⟨A, c, rfl, _, _⟩ := hL.2.2.form
  have hp := hL.lt
  have hcell := hL.cell
  have hov' : a + (n - 1) ≤ 18446744073709551615 := by omega
  cases hf : found es a
  · rw [hf] at H
    have hle := lb_le es a
    cases hk : lb es a with
    | zero =>
      rw [hk] at H
      obtain ⟨hx, hend⟩ := free_next (n := n) hs (by omega) (by omega) hf (fun k e (h : lb es a = k + 1) _ => by omega)
      rw [hk] at hx hend
      by_cases hl : es.length = 0
      · rw [hend (by omega)]
        have hlb : ((es.length : Int) == 0) = true := by simpa using hl
        have hlb' : ((0 : Int) == es.length) = true := by simp; omega
        have HH := Lib.hid H
        clear hL H hf hx hend hk hs hl
        go_enter Try.func17, Try.ntmps17
        go_wp2_with (go_at_call 28; refine HH.out.mono ?_; rintro r w1 ⟨rfl, hb1⟩; obtain ⟨hc1, hf1⟩ := bcell hb1)
        go_ret
        exact ⟨rfl, hb1⟩
      · obtain ⟨e, he⟩ : ∃ e, es[0]? = some e := ⟨es[0], by simp⟩
        rw [hx e he]
        obtain ⟨g, rfl, _, hg, c0, c1, c2, c3, _⟩ := hL.2.2.at he
        simp only [Nat.zero_mul, Nat.zero_add] at c0 c1 c2 c3
        have hlb : ((es.length : Int) == 0) = false := by simpa using hl
        have hlb' : ((0 : Int) == es.length) = false := by simp; omega
        have hlp : (0 : Int) < es.length := by omega
        have HH := Lib.hid H
        clear hL H hf hx hend hk hs hl he
        go_enter Try.func17, Try.ntmps17
        go_wp2_with (go_at_call 28; refine HH.out.mono ?_; rintro r w1 ⟨rfl, hb1⟩; obtain ⟨hc1, hf1⟩ := bcell hb1)
        go_ret
        exact ⟨rfl, hb1⟩
    | succ k =>
      rw [hk] at H
      have hkl : k < es.length := by omega
      obtain ⟨e, he⟩ : ∃ e, es[k]? = some e := ⟨es[k], by simp [hkl]⟩
      obtain ⟨m0, m1, m2, m3, m4⟩ := hs.mem he
      have hkI : (k : Int) < es.length := by omega
      obtain ⟨g, rfl, _, hg, c0, c1, c2, c3, _⟩ := hL.2.2.at he
      by_cases hend : a < e.a + max e.n 1
      · have hlt := lb_lt (t := a) he (by omega)
        rw [free_meets (by omega) he (by omega) (by omega)]
        have HH := Lib.hid H
        clear hL H hf hk hs he hle
        go_enter Try.func17, Try.ntmps17
        go_wp2_with (first | (go_at_call 28; refine HH.out.mono ?_; rintro r w1 ⟨rfl, hb1⟩; obtain ⟨hc1, hf1⟩ := bcell hb1) | (go_at_call 31; refine (end_any _ _ _ _ _ m0 m1 m2 m3).mono ?_; rintro r w2 ⟨rfl, hb2⟩; obtain ⟨hc2, hf2⟩ := bcell hb2))
        go_ret
        exact ⟨rfl, hb1.trans (hb2.mono hb1.size)⟩
      · have hend' : e.a + max e.n 1 ≤ a := by omega
        have hprev : ∀ (j : Nat) (x : Ent), lb es a = j + 1 → es[j]? = some x → x.a + max x.n 1 ≤ a := by
          intro j x hj hxj
          obtain rfl : j = k := by omega
          rw [he] at hxj
          cases hxj
          exact hend'
        obtain ⟨hx, hnone⟩ := free_next (n := n) hs (by omega) (by omega) hf hprev
        rw [hk] at hx hnone
        by_cases hl : k + 1 = es.length
        · rw [hnone (by omega)]
          have hlb : ((k : Int) + 1 == (es.length : Int)) = true := by simp; omega
          have HH := Lib.hid H
          have hz : p < w.heap.size := hL.lt
          clear hL H hf hx hnone hk hs hl he hend hle
          go_enter Try.func17, Try.ntmps17
          go_wp2_with (first | (go_at_call 28; refine HH.out.mono ?_; rintro r w1 ⟨rfl, hb1⟩; obtain ⟨hc1, hf1⟩ := bcell hb1; have hp1 : p < w1.heap.size := by (have := hb1.size; omega)) | (go_at_call 31; refine (end_any _ _ _ _ _ m0 m1 m2 m3).mono ?_; rintro r w2 ⟨rfl, hb2⟩; obtain ⟨hc2, hf2⟩ := bcell hb2))
          go_ret
          exact ⟨rfl, hb1.trans (hb2.mono hb1.size)⟩
        · obtain ⟨x, hxe⟩ : ∃ x, es[k+1]? = some x := ⟨es[k+1], by simp⟩
          rw [hx x hxe]
          obtain ⟨g', hgg, _, _, d0, d1, d2, d3, _⟩ := hL.2.2.at hxe
          simp only [Option.some.injEq, Addr.mk.injEq, and_true] at hgg
          subst hgg
          have hlb : ((k : Int) + 1 == (es.length : Int)) = false := by simp; omega
          have hl1 : (k : Int) + 1 < (es.length : Int) := by omega
          have HH := Lib.hid H
          clear hL H hf hx hnone hk hs hl he hend hle hxe
          go_enter Try.func17, Try.ntmps17
          go_wp2_with (first | (go_at_call 28; refine HH.out.mono ?_; rintro r w1 ⟨rfl, hb1⟩; obtain ⟨hc1, hf1⟩ := bcell hb1; have hp1 : p < w1.heap.size := (by have := hb1.size; omega); have hg1 : g < w1.heap.size := (by have := hb1.size; omega)) | (go_at_call 31; refine (end_any _ _ _ _ _ m0 m1 m2 m3).mono ?_; rintro r w2 ⟨rfl, hb2⟩; obtain ⟨hc2, hf2⟩ := bcell hb2))
          go_ret
          exact ⟨rfl, hb1.trans (hb2.mono hb1.size)⟩
  · obtain ⟨e, he, hea⟩ := found_some hf
    rw [free_meets (by omega) he (by omega) (by omega)]
    rw [hf] at H
    have HH := Lib.hid H
    clear hL H he hea hf
    go_enter Try.func17, Try.ntmps17
    go_wp2_with (go_at_call 28; refine HH.out.mono ?_; rintro r w1 ⟨rfl, hb1⟩)
    go_ret
    exact ⟨rfl, hb1⟩
end Go.Proofs.Ytgkloacfickeaaa
