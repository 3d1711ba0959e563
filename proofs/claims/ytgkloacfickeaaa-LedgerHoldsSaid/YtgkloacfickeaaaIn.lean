/- The ledger's In and Free. -/
import Derived.Test.YtgkloacfickeaaaTell
namespace Go.Proofs.Ytgkloacfickeaaa
open Go.RowKit
set_option linter.unusedVariables false

/-- Entries that are apart, rising, each of which may be. -/
structure Fit (es : List Ent) : Prop where
  apart : es.Pairwise fun x y => x.a + max x.n 1 ≤ y.a
  each : ∀ e ∈ es, 0 ≤ e.a ∧ 0 ≤ e.n ∧ 0 ≤ e.al ∧ mayB e.a e.n e.al = true

theorem mayB_bd {a n al : Int} (h : mayB a n al = true) : n ≤ 1048576 ∧ a ≤ 1048576 ∧ a + max n 1 ≤ 1048576 ∧ al ≤ 1024 ∧ 1 ≤ al ∧ a % al = 0 := by
  unfold mayB at h
  simp only [decide_eq_true_eq] at h
  obtain ⟨h1, h2, h3, h4, h5⟩ := h
  refine ⟨h1, h2, h3, ?_, ?_, h5⟩ <;> rcases pow2_cases h4 with h | h | h | h | h | h | h | h | h | h | h <;> omega
theorem Fit.rising {es : List Ent} (h : Fit es) : Rising es := h.apart.imp fun {x y} hxy => by omega
theorem Fit.mem {es : List Ent} (h : Fit es) {k : Nat} {e : Ent} (he : es[k]? = some e) : 0 ≤ e.a ∧ 0 ≤ e.n ∧ e.a ≤ 1048576 ∧ e.n ≤ 1048576 ∧ e.a + max e.n 1 ≤ 1048576 := by
  obtain ⟨h0, h1, _, h2⟩ := h.each e (List.mem_of_getElem? he)
  have := mayB_bd h2
  omega
theorem Fit.apart_at {es : List Ent} (h : Fit es) {i j : Nat} {x y : Ent} (hi : es[i]? = some x) (hj : es[j]? = some y) (hij : i < j) : x.a + max x.n 1 ≤ y.a := by
  obtain ⟨a, rfl⟩ := List.getElem?_eq_some_iff.1 hi
  obtain ⟨b, rfl⟩ := List.getElem?_eq_some_iff.1 hj
  exact List.pairwise_iff_getElem.1 h.apart i j a b hij

theorem lb_lt {es : List Ent} {t : Int} {k : Nat} {e : Ent} (he : es[k]? = some e) (hk : k < lb es t) : e.a < t := by
  unfold lb at hk
  have := List.not_of_lt_findIdx hk
  obtain ⟨h, rfl⟩ := List.getElem?_eq_some_iff.1 he
  simpa using this
theorem lb_ge {es : List Ent} {t : Int} (hs : Rising es) {k : Nat} {e : Ent} (he : es[k]? = some e) (hk : lb es t ≤ k) : t ≤ e.a := by
  have hkl : k < es.length := (List.getElem?_eq_some_iff.1 he).1
  have hl : lb es t < es.length := by omega
  have h1 : t ≤ (es[lb es t]).a := by
    have := List.findIdx_getElem (w := hl)
    exact of_decide_eq_true this
  by_cases heq : lb es t = k
  · subst heq
    obtain ⟨h, rfl⟩ := List.getElem?_eq_some_iff.1 he
    exact h1
  · have := rising_lt hs (List.getElem?_eq_getElem hl) he (by omega)
    omega
theorem lb_gt {es : List Ent} {t : Int} (hs : Rising es) (hf : found es t = false) {k : Nat} {e : Ent} (he : es[k]? = some e) (hk : lb es t ≤ k) : t < e.a := by
  have h1 := lb_ge hs he hk
  have hkl : k < es.length := (List.getElem?_eq_some_iff.1 he).1
  have hl : lb es t < es.length := by omega
  have h2 : (es[lb es t]).a ≠ t := by
    unfold found at hf
    rw [List.getElem?_eq_getElem hl] at hf
    simpa using hf
  by_cases heq : lb es t = k
  · subst heq
    obtain ⟨h, rfl⟩ := List.getElem?_eq_some_iff.1 he
    omega
  · have := rising_lt hs (List.getElem?_eq_getElem hl) he (by omega)
    have := lb_ge hs (List.getElem?_eq_getElem hl) (Nat.le_refl _)
    omega

theorem find_at {α : Type} {P : α → Bool} {es : List α} {k : Nat} {e : α} (he : es[k]? = some e) (hp : P e = true) (hlt : ∀ j x, j < k → es[j]? = some x → P x = false) : es.find? P = some e := by
  induction es generalizing k with
  | nil => simp at he
  | cons x es ih =>
    cases k with
    | zero => simp at he; subst he; simp [hp]
    | succ k =>
      have hx := hlt 0 x (by omega) (by simp)
      rw [List.find?_cons, hx]
      exact ih (by simpa using he) fun j y hj hy => hlt (j + 1) y (by omega) (by simpa using hy)
theorem find_no {α : Type} {P : α → Bool} {es : List α} (h : ∀ (j : Nat) (x : α), es[j]? = some x → P x = false) : es.find? P = none := by
  rw [List.find?_eq_none]
  intro x hx
  obtain ⟨j, hj⟩ := List.getElem?_of_mem hx
  simp [h j x hj]

/-- The entry that an address is in. -/
def inO (es : List Ent) (t : Int) : Option Ent := es.find? fun e => decide (e.a ≤ t ∧ t < e.a + max e.n 1)

theorem inO_found {es : List Ent} {t : Int} {e : Ent} (hs : Fit es) (he : es[lb es t]? = some e) (ha : e.a = t) : inO es t = some e := by
  refine find_at he (by simp; omega) fun j x hj hx => ?_
  have := hs.apart_at hx he hj
  simp; omega
theorem inO_zero {es : List Ent} {t : Int} (hs : Fit es) (hf : found es t = false) (h0 : lb es t = 0) : inO es t = none := by
  refine find_no fun j x hx => ?_
  have := lb_gt hs.rising hf hx (by omega)
  simp; omega
theorem inO_in {es : List Ent} {t : Int} {k : Nat} {e : Ent} (hs : Fit es) (hk : lb es t = k + 1) (he : es[k]? = some e) (hx : t < e.a + max e.n 1) : inO es t = some e := by
  have := lb_lt (t := t) he (by omega)
  refine find_at he (by simp; omega) fun j x hj hx => ?_
  have := hs.apart_at hx he hj
  simp; omega
theorem inO_out {es : List Ent} {t : Int} {k : Nat} {e : Ent} (hs : Fit es) (hf : found es t = false) (hk : lb es t = k + 1) (he : es[k]? = some e) (hx : e.a + max e.n 1 ≤ t) : inO es t = none := by
  refine find_no fun j x hxj => ?_
  by_cases hj : j ≤ k
  · by_cases hjk : j = k
    · subst hjk; rw [he] at hxj; cases hxj; simp; omega
    · have := hs.apart_at hxj he (by omega)
      have := lb_lt (t := t) he (by omega)
      simp; omega
  · have := lb_gt hs.rising hf hxj (by omega)
    simp; omega

set_option maxHeartbeats 1000000 in
theorem in_any (p base : Nat) (v : Value) (es : List Ent) (t : Int) (w : World) (hlen : es.length ≤ 1000000) (hs : Fit es) (hL : Led w base p v es) :
    Calls Try.prog 16 #[.pointer (some ⟨p, 0, none⟩), .int .u64 t] w fun r w' =>
      r = .returned (.tuple #[.agg #[.int .u64 (tA (inO es t)), .int .u64 (tN (inO es t)), .int .u64 (tL (inO es t))], .int .i64 (tE (inO es t))]) ∧ Below w.heap.size w w' := by
  have hL1 := hL.box (.cells #[.int .u64 0, .int .u64 0, .int .u64 0] 35)
  have H := place_any p base v es t (w.alloc (.cells #[.int .u64 0, .int .u64 0, .int .u64 0] 35)) hlen hs.rising hL1
  obtain ⟨A, c, rfl, _, _⟩ := hL.2.2.form
  have hp := hL.lt
  have hcell := hL.cell
  cases hf : found es t
  · rw [hf] at H
    cases hk : lb es t with
    | zero =>
      have ho := inO_zero hs hf hk
      rw [ho]
      rw [hk] at H
      have HH := Lib.hid H
      clear hL hL1 H ho hf hk hs
      go_enter Try.func16, Try.ntmps16
      go_wp2_with (go_at_call 28; refine HH.out.mono ?_; rintro r w1 ⟨rfl, hb1⟩; obtain ⟨hc1, hf1⟩ := bcell hb1)
      refine bodyPost_ret (v := .tuple #[.agg #[.int .u64 0, .int .u64 0, .int .u64 0], .int .i64 5]) (by simp [results, Try.results16, go_sem, hc1]) rfl ⟨ret_told rfl rfl rfl rfl, ?_⟩
      exact (((below_box hb1).setCell (p := ⟨w.heap.size, 0, none⟩) (Nat.le_refl _) _).setCell (p := ⟨w.heap.size, 1, none⟩) (Nat.le_refl _) _).setCell (p := ⟨w.heap.size, 2, none⟩) (Nat.le_refl _) _
    | succ k =>
      have hkl : k < es.length := by have := lb_le es t; omega
      obtain ⟨e, he⟩ : ∃ e, es[k]? = some e := ⟨es[k], by simp [hkl]⟩
      rw [hk] at H
      obtain ⟨m, hm⟩ : ∃ m : Int, m = ((k + 1 : Nat) : Int) := ⟨_, rfl⟩
      rw [← hm] at H
      have hm1 : m - 1 = (k : Int) := by omega
      have hmem := hs.mem he
      obtain ⟨m0, m1, m2, m3, m4⟩ := hmem
      have hke : (k : Int) < es.length := by omega
      obtain ⟨g, rfl, _, hg, c0, c1, c2, c3, _⟩ := hL.2.2.at he
      by_cases hx : e.a + max e.n 1 ≤ t
      · have ho := inO_out hs hf hk he hx
        rw [ho]
        have HH := Lib.hid H
        have hmm : 1 ≤ m := by omega
        have hmx : m ≤ 1000000 := by omega
        clear hL hL1 H ho hf hk hs he hm
        go_enter Try.func16, Try.ntmps16
        go_wp2_with (first | (go_at_call 28; refine HH.out.mono ?_; rintro r w1 ⟨rfl, hb1⟩; obtain ⟨hc1, hf1⟩ := bcell hb1; have hz1 : w.heap.size < w1.heap.size := by (have := hb1.size; simp only [World.size_alloc] at this; omega)) | (go_at_call 31; refine (end_any _ _ _ _ _ m0 m1 m2 m3).mono ?_; rintro r w2 ⟨rfl, hb2⟩; obtain ⟨hc2, hf2⟩ := bcell hb2))
        refine bodyPost_ret (v := .tuple #[.agg #[.int .u64 0, .int .u64 0, .int .u64 0], .int .i64 5]) (by simp [results, Try.results16, go_sem, hc2, hc1, hz1]) rfl ⟨ret_told rfl rfl rfl rfl, ?_⟩
        exact ((((below_box hb1).trans (hb2.mono (by omega))).setCell (p := ⟨w.heap.size, 0, none⟩) (Nat.le_refl _) _).setCell (p := ⟨w.heap.size, 1, none⟩) (Nat.le_refl _) _).setCell (p := ⟨w.heap.size, 2, none⟩) (Nat.le_refl _) _
      · have ho := inO_in hs hk he (by omega)
        rw [ho]
        have HH := Lib.hid H
        have hmm : 1 ≤ m := by omega
        have hmx : m ≤ 1000000 := by omega
        have hx' : t < e.a + max e.n 1 := by omega
        have HL := Lib.hid hL1
        have HE := Lib.hid he
        clear hL hL1 H ho hf hk hs he hm hx
        go_enter Try.func16, Try.ntmps16
        go_wp2_with (first | (go_at_call 28; refine HH.out.mono ?_; rintro r w1 ⟨rfl, hb1⟩; obtain ⟨hc1, hf1⟩ := bcell hb1; have hz1 : w.heap.size < w1.heap.size := by (have := hb1.size; simp only [World.size_alloc] at this; omega)) | (go_at_call 31; refine (end_any _ _ _ _ _ m0 m1 m2 m3).mono ?_; rintro r w2 ⟨rfl, hb2⟩; obtain ⟨hc2, hf2⟩ := bcell hb2; have hz2 : w.heap.size < w2.heap.size := by (have := hb2.size; omega)) | (go_at_call 29; refine (one_any p base _ es k e _ hlen (by exact (HL.out.below hb1 (Nat.le_refl _)).below hb2 (Nat.le_refl _)) HE.out).mono ?_; rintro r w3 ⟨rfl, hb3⟩; obtain ⟨hc3, hf3⟩ := bcell hb3))
        refine bodyPost_ret (v := .tuple #[.agg #[.int .u64 (tA (some e)), .int .u64 (tN (some e)), .int .u64 (tL (some e))], .int .i64 (tE (some e))]) (by simp [results, Try.results16, go_sem, hc3, hc2, hc1, hz1, hz2]) rfl ⟨rfl, ?_⟩
        exact (((((below_box hb1).trans (hb2.mono (by omega))).trans (hb3.mono (by omega))).setCell (p := ⟨w.heap.size, 0, none⟩) (Nat.le_refl _) _).setCell (p := ⟨w.heap.size, 1, none⟩) (Nat.le_refl _) _).setCell (p := ⟨w.heap.size, 2, none⟩) (Nat.le_refl _) _
  · obtain ⟨e, he, hea⟩ := found_some hf
    have ho := inO_found hs he hea
    rw [ho]
    rw [hf] at H
    have hkl : lb es t < es.length := (List.getElem?_eq_some_iff.1 he).1
    generalize lb es t = k at *
    have hmem := hs.mem he
    obtain ⟨m0, m1, m2, m3, m4⟩ := hmem
    have hke : (k : Int) < es.length := by omega
    have hx' : t < e.a + max e.n 1 := by omega
    obtain ⟨g, rfl, _, hg, c0, c1, c2, c3, _⟩ := hL.2.2.at he
    have HH := Lib.hid H
    have HL := Lib.hid hL1
    have HE := Lib.hid he
    clear hL hL1 H ho hf hs he hea
    go_enter Try.func16, Try.ntmps16
    go_wp2_with (first | (go_at_call 28; refine HH.out.mono ?_; rintro r w1 ⟨rfl, hb1⟩; obtain ⟨hc1, hf1⟩ := bcell hb1; have hz1 : w.heap.size < w1.heap.size := by (have := hb1.size; simp only [World.size_alloc] at this; omega)) | (go_at_call 31; refine (end_any _ _ _ _ _ m0 m1 m2 m3).mono ?_; rintro r w2 ⟨rfl, hb2⟩; obtain ⟨hc2, hf2⟩ := bcell hb2; have hz2 : w.heap.size < w2.heap.size := by (have := hb2.size; omega)) | (go_at_call 29; refine (one_any p base _ es k e _ hlen (by exact (HL.out.below hb1 (Nat.le_refl _)).below hb2 (Nat.le_refl _)) HE.out).mono ?_; rintro r w3 ⟨rfl, hb3⟩; obtain ⟨hc3, hf3⟩ := bcell hb3))
    refine bodyPost_ret (v := .tuple #[.agg #[.int .u64 (tA (some e)), .int .u64 (tN (some e)), .int .u64 (tL (some e))], .int .i64 (tE (some e))]) (by simp [results, Try.results16, go_sem, hc3, hc2, hc1, hz1, hz2]) rfl ⟨rfl, ?_⟩
    exact (((((below_box hb1).trans (hb2.mono (by omega))).trans (hb3.mono (by omega))).setCell (p := ⟨w.heap.size, 0, none⟩) (Nat.le_refl _) _).setCell (p := ⟨w.heap.size, 1, none⟩) (Nat.le_refl _) _).setCell (p := ⟨w.heap.size, 2, none⟩) (Nat.le_refl _) _
end Go.Proofs.Ytgkloacfickeaaa
