/- The ledger's one, At, In, Free. -/
import Derived.Test.YtgkloacfickeaaaMay
namespace Go.Proofs.Ytgkloacfickeaaa
open Go.RowKit
set_option linter.unusedVariables false

/-- What is told of an entry, or none: its block, and the error. -/
def tE : Option Ent → Int | none => 5 | some e => if e.h = true then 7 else 0
def tA : Option Ent → Int | none => 0 | some e => if e.h = true then 0 else e.a
def tN : Option Ent → Int | none => 0 | some e => if e.h = true then 0 else e.n
def tL : Option Ent → Int | none => 0 | some e => if e.h = true then 0 else e.al

theorem ret_told {a n l e a' n' l' e' : Int} (h1 : a = a') (h2 : n = n') (h3 : l = l') (h4 : e = e') :
    Ending.returned (.tuple #[.agg #[.int .u64 a, .int .u64 n, .int .u64 l], .int .i64 e]) = .returned (.tuple #[.agg #[.int .u64 a', .int .u64 n', .int .u64 l'], .int .i64 e']) := by
  rw [h1, h2, h3, h4]

theorem one_any (p base : Nat) (v : Value) (es : List Ent) (i : Nat) (e : Ent) (w : World) (hlen : es.length ≤ 1000000) (hL : Led w base p v es) (he : es[i]? = some e) :
    Calls Try.prog 29 #[.pointer (some ⟨p, 0, none⟩), .int .i64 i] w fun r w' =>
      r = .returned (.tuple #[.agg #[.int .u64 (tA (some e)), .int .u64 (tN (some e)), .int .u64 (tL (some e))], .int .i64 (tE (some e))]) ∧ Below w.heap.size w w' := by
  obtain ⟨A, c, rfl, _, _⟩ := hL.2.2.form
  have hc := hL.cell
  have hp := hL.lt
  obtain ⟨g, rfl, _, hg, h0, h1, h2, h3, _⟩ := hL.2.2.at he
  have hi : (i : Int) < es.length := by have := (List.getElem?_eq_some_iff.1 he).1; omega
  have hi' : i < es.length := by omega
  clear hL he
  obtain ⟨ea, en, el, eh⟩ := e
  dsimp only at h0 h1 h2 h3
  cases eh
  · go_enter Try.func29, Try.ntmps29
    go_wp2
    refine bodyPost_ret (v := .tuple #[.agg #[.int .u64 ea, .int .u64 en, .int .u64 el], .int .i64 0]) (by simp [results, Try.results29, go_sem]) rfl ⟨ret_told rfl rfl rfl rfl, ?_⟩
    exact (Below.refl _ _).alloc (Nat.le_refl _) _
  · go_enter Try.func29, Try.ntmps29
    go_wp2
    refine bodyPost_ret (v := .tuple #[.agg #[.int .u64 0, .int .u64 0, .int .u64 0], .int .i64 7]) (by simp [results, Try.results29, go_sem]) rfl ⟨ret_told rfl rfl rfl rfl, ?_⟩
    exact (Below.refl _ _).alloc (Nat.le_refl _) _

theorem found_some {es : List Ent} {t : Int} (h : found es t = true) : ∃ e, es[lb es t]? = some e ∧ e.a = t := by
  unfold found at h
  split at h
  · rename_i e he; exact ⟨e, he, by simpa using h⟩
  · simp at h
/-- The entry that begins there. -/
def atO (es : List Ent) (t : Int) : Option Ent := if found es t = true then es[lb es t]? else none

theorem below_box {w w1 : World} {o : Obj} (hb : Below (w.alloc o).heap.size (w.alloc o) w1) : Below w.heap.size w w1 :=
  ((Below.refl _ _).alloc (Nat.le_refl _) _).trans (hb.mono (by simp))
theorem Led.below {w w1 : World} {base p B : Nat} {v : Value} {es : List Ent} (h : Led w base p v es) (hb : Below B w w1) (hB : w.heap.size ≤ B) : Led w1 base p v es :=
  h.mod (S := fun _ => False) (Mod.of_below hb hB) (fun h => h) (fun _ _ h => h)
theorem Led.box {w : World} {base p : Nat} {v : Value} {es : List Ent} (h : Led w base p v es) (o : Obj) : Led (w.alloc o) base p v es :=
  h.mod ((Mod.refl (fun _ => False) w).alloc _) (fun h => h) (fun _ _ h => h)

set_option maxHeartbeats 400000 in
theorem at_any (p base : Nat) (v : Value) (es : List Ent) (t : Int) (w : World) (hlen : es.length ≤ 1000000) (hsort : Rising es) (hL : Led w base p v es) :
    Calls Try.prog 13 #[.pointer (some ⟨p, 0, none⟩), .int .u64 t] w fun r w' =>
      r = .returned (.tuple #[.agg #[.int .u64 (tA (atO es t)), .int .u64 (tN (atO es t)), .int .u64 (tL (atO es t))], .int .i64 (tE (atO es t))]) ∧ Below w.heap.size w w' := by
  have hL1 := hL.box (.cells #[.int .u64 0, .int .u64 0, .int .u64 0] 35)
  have H := place_any p base v es t (w.alloc (.cells #[.int .u64 0, .int .u64 0, .int .u64 0] 35)) hlen hsort hL1
  cases hf : found es t
  · have ho : atO es t = none := by unfold atO; rw [hf]; rfl
    rw [ho]
    rw [hf] at H
    have HH := Lib.hid H
    clear hL hL1 H ho hf
    go_enter Try.func13, Try.ntmps13
    go_wp2_with (go_at_call 28; refine HH.out.mono ?_; rintro r w1 ⟨rfl, hb1⟩; obtain ⟨hc1, hf1⟩ := bcell hb1)
    refine bodyPost_ret (v := .tuple #[.agg #[.int .u64 0, .int .u64 0, .int .u64 0], .int .i64 5]) (by simp [results, Try.results13, go_sem, hc1]) rfl ⟨ret_told rfl rfl rfl rfl, ?_⟩
    exact (((below_box hb1).setCell (p := ⟨w.heap.size, 0, none⟩) (Nat.le_refl _) _).setCell (p := ⟨w.heap.size, 1, none⟩) (Nat.le_refl _) _).setCell (p := ⟨w.heap.size, 2, none⟩) (Nat.le_refl _) _
  · obtain ⟨e, he, hea⟩ := found_some hf
    have ho : atO es t = some e := by unfold atO; rw [hf, if_pos rfl, he]
    rw [ho]
    rw [hf] at H
    have HH := Lib.hid H
    have HL := Lib.hid hL1
    have HE := Lib.hid he
    clear hL hL1 H ho hf he hea
    go_enter Try.func13, Try.ntmps13
    go_wp2_with (first | (go_at_call 28; refine HH.out.mono ?_; rintro r w1 ⟨rfl, hb1⟩; obtain ⟨hc1, hf1⟩ := bcell hb1; have hz1 : w.heap.size < w1.heap.size := by (have := hb1.size; simp only [World.size_alloc] at this; omega)) | (go_at_call 29; refine (one_any p base v es (lb es t) e _ hlen (by exact HL.out.below hb1 (Nat.le_refl _)) HE.out).mono ?_; rintro r w2 ⟨rfl, hb2⟩; obtain ⟨hc2, hf2⟩ := bcell hb2))
    refine bodyPost_ret (v := .tuple #[.agg #[.int .u64 (tA (some e)), .int .u64 (tN (some e)), .int .u64 (tL (some e))], .int .i64 (tE (some e))]) (by simp [results, Try.results13, go_sem, hc2, hc1, hz1]) rfl ⟨rfl, ?_⟩
    exact ((((below_box hb1).trans (hb2.mono (by omega))).setCell (p := ⟨w.heap.size, 0, none⟩) (Nat.le_refl _) _).setCell (p := ⟨w.heap.size, 1, none⟩) (Nat.le_refl _) _).setCell (p := ⟨w.heap.size, 2, none⟩) (Nat.le_refl _) _
end Go.Proofs.Ytgkloacfickeaaa
