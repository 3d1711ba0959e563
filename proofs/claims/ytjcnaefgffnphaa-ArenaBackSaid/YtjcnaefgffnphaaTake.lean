/- The lowest free row is taken: a range over a function. -/
import Derived.RangeFuncNested
import Derived.RangeFuncBound
import Derived.RangeFuncCalls
import Derived.RangeFuncLeaves
import Derived.RangeFuncFrom
import Derived.Shelf.Abstract
import Derived.Shelf.RegionOpen
import Derived.OwnWalkIn
import Derived.TacticsInMore
import Derived.LoopNIn
import Derived.LoopIn
import Derived.Test.YtjcnaefgffnphaaMark
namespace Go.Proofs.Ytjcnaefgffnphaa
open Go.RowKit Go.Shelf
set_option linter.unusedVariables false
attribute [local go_sem] Oper.semAt_some

abbrev Rn (f : Nat → Bool) (n : Nat) := {x : Nat × Nat // OkRun f n x}
/-- Rows came till one was enough. -/
def SpR (f : Nat → Bool) (n : Nat) (pre : List (Rn f n)) : Prop := ∃ (p : List (Rn f n)) (x : Rn f n), pre = p ++ [x] ∧ Runs f n x.1.1 p

theorem runs_next {f : Nat → Bool} {n a : Nat} {pre : List (Rn f n)} (h : Runs f n a pre) (x : Rn f n) (hx : x.1.1 = a) : Runs f n (a + x.1.2 + 1) (pre ++ [x]) := by
  intro q h1 h2 h3
  by_cases h4 : q < a
  · obtain ⟨y, hy, h5⟩ := h q h4 h2 h3
    exact ⟨y, List.mem_append.2 (.inl hy), h5⟩
  · refine ⟨x, by simp, by omega, ?_⟩
    by_cases h5 : q = a + x.1.2
    · have := x.2.2.2.2 (by omega)
      rw [hx, ← h5, h3] at this
      cases this
    · omega
theorem runs_skip {f : Nat → Bool} {n a : Nat} {pre : List (Rn f n)} (h : Runs f n a pre) (ha : f a = true) : Runs f n (a + 1) pre := by
  intro q h1 h2 h3
  refine h q ?_ h2 h3
  by_cases h5 : q = a
  · subst h5; rw [ha] at h3; cases h3
  · omega
theorem runs_all {f : Nat → Bool} {n a : Nat} {pre : List (Rn f n)} (h : Runs f n a pre) (ha : n ≤ a) : Runs f n n pre := fun q h1 h2 h3 => h q (by omega) h2 h3

theorem rows_in (p : Option Addr) (w : World) :
    CallsIn Fence.wide 3 Try.prog 36 #[.pointer p] w fun e w' => e = .returned (.func (.func 45) #[] #[.pointer (some ⟨w.heap.size, 0, none⟩)]) ∧ w' = w.alloc (.cells #[.pointer p] 58) := by
  refine callsIn_wide.2 ?_
  go_enter Try.func36, Try.ntmps36
  go_wp2
  go_ret
  exact ⟨rfl, rfl⟩

set_option maxRecDepth 100000 in
set_option maxHeartbeats 2000000 in
theorem rows1_in (m l Bs n0 p g n : Nat) (f : Nat → Bool) (hm : 1 ≤ m) (hn : n ≤ 1000000) (hp : p < n0) (hg : g < n0) (hB : Bs < n0) (J Jx : List (Rn f n) → World → Prop)
    (hY : ∀ pre x W, J pre W → pre.length < n → YieldAt Fence.wide (m - 1) Try.prog l #[.int .i64 (x.1.1 : Int), .int .i64 (x.1.2 : Int)] W fun e W' =>
      (e = .returned (.bool true) ∧ J (pre ++ [x]) W' ∧ Below n0 W W') ∨ (e = .returned (.bool false) ∧ Jx (pre ++ [x]) W'))
    (W : World) (hBs : W.cell? ⟨Bs, 0, none⟩ = some (.pointer (some ⟨p, 0, none⟩))) (hM : Mk W p g n f) (h0 : J [] W) :
    CallsIn Fence.wide m Try.prog 45 #[.func (.yield l) #[] #[], .pointer (some ⟨Bs, 0, none⟩)] W fun e W' => (∃ v, e = .returned v) ∧
      ((∃ ys, Runs f n n ys ∧ J ys W') ∨ (∃ pre, SpR f n pre ∧ Jx pre W')) := by
  have HB0 := Lib.hid hBs
  have HM0 := Lib.hid hM
  clear hBs hM
  refine callsIn_of_wp Try.func45 rfl trivial ?_ rfl
  simp only [Try.ntmps45, List.size_toArray, List.length_cons, List.length_nil, Nat.reduceAdd, Nat.reduceSub, Array.replicate_succ, Array.replicate_zero, List.push_toArray, List.append_toArray, List.nil_append, List.cons_append]
  gi_wp2
  gi_loopw [3] (fun i wr => ∃ (a : Nat) (pre : List (Rn f n)), i = .int .i64 a ∧ a ≤ n + 1 ∧ pre.length ≤ a ∧ Runs f n a pre ∧ J pre wr ∧ Below n0 W wr)
    (fun i _ => n + 1 - (intOf i).toNat)
  case atStart => exact ⟨0, [], rfl, by omega, Nat.le_refl _, fun q h => by omega, h0, Below.refl _ _⟩
  case round =>
    obtain ⟨a, pre, rfl, ha, hl, hr, hJ, hb⟩ := hrel
    have hM := HM0.out.below hb hp hg
    have hbs : wr.cell? ⟨Bs, 0, none⟩ = some (.pointer (some ⟨p, 0, none⟩)) := (hb.cell (p := ⟨Bs, 0, none⟩) hB).trans HB0.out
    have hc0 := hM.cell0
    have HR := Lib.hid hr
    clear hr
    by_cases hlt : a < n
    · have HI := Lib.hid (index_any g a (n - a) (n - a) (fun j => f (a + j)) true wr (by omega) (fun j hj => hM.cell (by omega)))
      have hai : (a : Int) < n := by omega
      have h7 : ¬ n = a := by omega
      have h8 : a ≤ n := by omega
      have h9 : (a : Int) ≤ n := by omega
      clear hM
      rcases idxI_cases (fun j => f (a + j)) true (n - a) with ⟨k, hk, hfk, hne, hid⟩ | ⟨hne, hid⟩
      · have HID := Lib.hid hid
        have hki : (k : Int) ≤ 1000000 := by omega
        by_cases hk0 : 0 < k
        · obtain ⟨x, hx⟩ : ∃ x : Rn f n, x.1 = (a, k) := ⟨⟨(a, k), hk0, by show a + k ≤ n; omega, fun q h1 h2 => by
            have := hne (q - a) (by simp at h2; omega)
            rw [show a + (q - a) = q by simp at h1; omega] at this
            simpa using this, fun _ => hfk⟩, rfl⟩
          obtain ⟨fn, tmps, assign, body, hy, hR⟩ := hY pre x wr hJ (by omega)
          rw [hx] at hy
          dsimp only at hy
          have HX := Lib.hid hx
          have hk0i : (0 : Int) < k := by omega
          clear hne hid hx hJ hfk
          gi_wp2_with (refine ⟨trivial, ?_⟩; gi_at_call 46; (with_reducible refine (callsIn_wide.2 HI.out).mono ?_); rintro e w' ⟨rfl, rfl⟩; rw [HID.out])
          refine hR.mono ?_
          rintro e W3 (⟨rfl, hJ3, hk3⟩ | ⟨rfl, hJx3⟩)
          · gi_wp2
            go_roundw
            case rel => exact ⟨a + k + 1, pre ++ [x], by go_num, by omega, by simp; omega, by have := runs_next HR.out x (by rw [HX.out]); rw [HX.out] at this; exact this, hJ3, hb.trans hk3⟩
            case measure => simp [intOf]; omega
          · gi_wp2
            refine bodyPost_ret (results_none rfl _ _ _) rfl ?_
            exact ⟨⟨_, rfl⟩, .inr ⟨pre ++ [x], ⟨pre, x, rfl, by rw [HX.out]; exact HR.out⟩, hJx3⟩⟩
        · obtain rfl : k = 0 := by omega
          have HF := Lib.hid hfk
          clear hne hid hfk
          gi_wp2_with (refine ⟨trivial, ?_⟩; gi_at_call 46; (with_reducible refine (callsIn_wide.2 HI.out).mono ?_); rintro e w' ⟨rfl, rfl⟩; rw [HID.out])
          refine ⟨fun _ h => (by cases h), ?_⟩
          gi_wp2
          go_roundw
          case rel => exact ⟨a + 1, pre, by go_num, by omega, by omega, runs_skip HR.out HF.out, hJ, hb⟩
          case measure => simp [intOf]; omega
      · have HID := Lib.hid hid
        obtain ⟨x, hx⟩ : ∃ x : Rn f n, x.1 = (a, n - a) := ⟨⟨(a, n - a), by show 0 < n - a; omega, by show a + (n - a) ≤ n; omega, fun q h1 h2 => by
            have := hne (q - a) (by simp at h1 h2; omega)
            rw [show a + (q - a) = q by simp at h1; omega] at this
            simpa using this, fun h => by simp at h; omega⟩, rfl⟩
        obtain ⟨fn, tmps, assign, body, hy, hR⟩ := hY pre x wr hJ (by omega)
        rw [hx] at hy
        dsimp only at hy
        have hsub : ((n - a : Nat) : Int) = (n : Int) - a := by omega
        rw [hsub] at hy
        have HX := Lib.hid hx
        clear hne hid hx hJ hsub
        gi_wp2_with (refine ⟨trivial, ?_⟩; gi_at_call 46; (with_reducible refine (callsIn_wide.2 HI.out).mono ?_); rintro e w' ⟨rfl, rfl⟩; rw [HID.out])
        refine hR.mono ?_
        rintro e W3 (⟨rfl, hJ3, hk3⟩ | ⟨rfl, hJx3⟩)
        · gi_wp2
          go_roundw
          case rel => exact ⟨a + (n - a) + 1, pre ++ [x], by go_num, by omega, by simp; omega, by have := runs_next HR.out x (by rw [HX.out]); rw [HX.out] at this; exact this, hJ3, hb.trans hk3⟩
          case measure => simp [intOf]; omega
        · gi_wp2
          refine bodyPost_ret (results_none rfl _ _ _) rfl ?_
          exact ⟨⟨_, rfl⟩, .inr ⟨pre ++ [x], ⟨pre, x, rfl, by rw [HX.out]; exact HR.out⟩, hJx3⟩⟩
    · have hki : decide ((a : Int) < n) = false := by simp; omega
      gi_wp2
      go_end0
      exact ⟨⟨_, rfl⟩, .inl ⟨pre, runs_all HR.out (by omega), hJ⟩⟩
theorem Mod.then_below {S : Nat → Prop} {B : Nat} {w W W' : World} (h : Mod S w W) (hb : Below B W W') (hB : w.heap.size ≤ B) : Mod S w W' :=
  ⟨hb.os.trans h.os, hb.tape.trans h.tape, hb.output.trans h.output, Nat.le_trans h.size hb.size, fun k hk hn => (hb.block k (by omega)).trans (h.block k hk hn)⟩
theorem below_drewN {B : Nat} {a w : World} (h : Below B a w) (q : Nat) : Below B a (w.drewN q) := ⟨h.os, h.tape, h.output, h.size, h.block⟩
theorem ownFrom_of_below {β : Type} {B : Nat} {I : β → World → Prop} (h : ∀ s W, I s W → B ≤ W.heap.size) (h2 : ∀ s W W', I s W → Below B W W' → I s W') : OwnFrom B I :=
  fun s W W' row hs hg hr => h2 s W W' hs ((Below.refl B W).grown hg (h s W hs) (fun k e => (hr k e).1))
theorem keeps_of_mod {S : Nat → Prop} {W W' : World} (h : Mod S W W') (hS : ∀ k o, S k → W.heap[k]? = some o → o.isCells = true) : KeepsOthers W W' :=
  ⟨h.size, fun k o hk ho => (h.block k (Array.getElem?_eq_some_iff.1 hk).1 (fun hs => by have := hS k o hs hk; rw [ho] at this; cases this)).trans hk⟩

/-- Behind the round that took a row. -/
structure Took (V W : World) (p g n r A E : Nat) (f : Nat → Bool) (x : Rn f n) : Prop where
  mod : Mod (fun k => MS p g k ∨ k = A ∨ k = E) V W
  mks : Mk W p g n (upd f x.1.1 r true)
  a : W.heap[A]? = some (.cells #[.int .i64 (x.1.1 : Int)] 3 (0, 0))
  e : W.heap[E]? = some (.cells #[.int .i64 0] 24 (0, 0))
theorem Took.below {V W W' : World} {p g n r A E : Nat} {f : Nat → Bool} {x : Rn f n} (h : Took V W p g n r A E f x) (hp : p < V.heap.size) (hg : g < V.heap.size) (hA : A < V.heap.size) (hE : E < V.heap.size) (hb : Below V.heap.size W W') : Took V W' p g n r A E f x :=
  ⟨h.mod.then_below hb (Nat.le_refl _), h.mks.below hb hp hg, (hb.block A hA).trans h.a, (hb.block E hE).trans h.e⟩

def encR (f : Nat → Bool) (n : Nat) (x : Rn f n) : Array Value := #[.int .i64 (x.1.1 : Int), .int .i64 (x.1.2 : Int)]
theorem rows_stops (p g n Bs : Nat) (f : Nat → Bool) (V : World) (hn : n ≤ 1000000) (hM : Mk V p g n f) (hB : Bs < V.heap.size) (hc : V.cell? ⟨Bs, 0, none⟩ = some (.pointer (some ⟨p, 0, none⟩))) :
    SeqStopsK Fence.wide 2 Try.prog 45 #[.pointer (some ⟨Bs, 0, none⟩)] (encR f n) (Below V.heap.size) (Runs f n n) (SpR f n) n V := fun l J Jx W hW _ _ hY h0 =>
  rows1_in 2 l Bs V.heap.size p g n f (by omega) hn hM.plt hM.glt hB J Jx hY W ((hW.cell (p := ⟨Bs, 0, none⟩) hB).trans hc) (hM.below hW hM.plt hM.glt) h0

theorem took_low {f : Nat → Bool} {n r : Nat} {q : List (Rn f n)} {x : Rn f n} (h1 : 1 ≤ r) (hq : ∀ y ∈ q, y.1.2 < r) (hx : r ≤ x.1.2) (hr : Runs f n x.1.1 q) : lowF f n r = some x.1.1 := by
  obtain ⟨p1, p2, p3, p4⟩ := x.2
  exact lowF_some (by omega) ⟨by omega, fun j h2 h3 => p3 j h2 (by omega)⟩ (fun j hj => runs_none hr (by omega) hq hj)
theorem none_low {f : Nat → Bool} {n r : Nat} {q : List (Rn f n)} (h1 : 1 ≤ r) (hq : ∀ y ∈ q, y.1.2 < r) (hr : Runs f n n q) : lowF f n r = none :=
  lowF_none (fun j hj => runs_none hr (by omega) hq hj)
theorem snoc_inj {α : Type} {a b : List α} {x y : α} (h : a ++ [x] = b ++ [y]) : a = b ∧ x = y := by
  have := List.append_inj' h rfl
  exact ⟨this.1, by simpa using this.2⟩

theorem took_end {V X Y : World} {p g n r z : Nat} {f : Nat → Bool} {x : Rn f n} (hMV : Mk V p g n f) (hb : Below V.heap.size V X) (hm : Mod (MS p g) X Y) (hk : Mk Y p g n (upd f x.1.1 r true))
    (hA : Y.heap[z + 1 + 1]? = some (.cells #[.int .i64 0] 3 (0, 0))) (hE : Y.heap[z + 1 + 1 + 1]? = some (.cells #[.int .i64 0] 24 (0, 0))) (hp : p < z) (hg : g < z) (hz : z + 3 < V.heap.size) :
    Took V ((Y.setCell ⟨z + 1 + 1, 0, none⟩ (.int .i64 (x.1.1 : Int))).setCell ⟨z + 1 + 1 + 1, 0, none⟩ (.int .i64 0)) p g n r (z + 1 + 1) (z + 1 + 1 + 1) f x ∧
      Mod (fun k => MS p g k ∨ k = z + 1 + 1 ∨ k = z + 1 + 1 + 1) X ((Y.setCell ⟨z + 1 + 1, 0, none⟩ (.int .i64 (x.1.1 : Int))).setCell ⟨z + 1 + 1 + 1, 0, none⟩ (.int .i64 0)) := by
  have h2 : Mod (fun k => k = z + 1 + 1 ∨ k = z + 1 + 1 + 1) Y ((Y.setCell ⟨z + 1 + 1, 0, none⟩ (.int .i64 (x.1.1 : Int))).setCell ⟨z + 1 + 1 + 1, 0, none⟩ (.int .i64 0)) :=
    ((Mod.refl _ Y).setCell (p := ⟨z + 1 + 1, 0, none⟩) (fun _ => .inl rfl) _).setCell (p := ⟨z + 1 + 1 + 1, 0, none⟩) (fun _ => .inr rfl) _
  have h3 : Mod (fun k => MS p g k ∨ k = z + 1 + 1 ∨ k = z + 1 + 1 + 1) X ((Y.setCell ⟨z + 1 + 1, 0, none⟩ (.int .i64 (x.1.1 : Int))).setCell ⟨z + 1 + 1 + 1, 0, none⟩ (.int .i64 0)) :=
    (hm.mono (fun k _ h => .inl h)).trans h2 (fun k _ h => .inr h)
  refine ⟨⟨(Mod.of_below (S := fun k => MS p g k ∨ k = z + 1 + 1 ∨ k = z + 1 + 1 + 1) hb (Nat.le_refl _)).trans h3 (fun _ _ h => h), hk.mod h2 (by omega) (by omega), ?_, ?_⟩, h3⟩
  · rw [heap_setCell_other _ _ _ _ (by simp)]
    exact heap_setCell_same Y (z + 1 + 1) 0 _ 3 _ hA
  · refine heap_setCell_same _ (z + 1 + 1 + 1) 0 #[.int .i64 0] 24 _ ?_
    rw [heap_setCell_other _ _ _ _ (by simp)]
    exact hE

def TakePost (w : World) (p g n r : Nat) (f : Nat → Bool) (e : Ending) (w' : World) : Prop :=
  match lowF f n r with
  | some a => e = .returned (.tuple #[.int .i64 a, .int .i64 0]) ∧ Mod (MS p g) w w' ∧ Mk w' p g n (upd f a r true)
  | none => e = .returned (.tuple #[.int .i64 0, .int .i64 4]) ∧ Below w.heap.size w w'

set_option maxRecDepth 100000 in
set_option maxHeartbeats 2000000 in
theorem take_any (p g n r : Nat) (f : Nat → Bool) (w : World) (hn : n ≤ 1000000) (hM : Mk w p g n f) (h1 : 1 ≤ r) (h2 : r ≤ n) :
    Calls Try.prog 28 #[.pointer (some ⟨p, 0, none⟩), .int .i64 r] w (TakePost w p g n r f) := by
  have hp := hM.plt
  have hg := hM.glt
  have hc0 := hM.cell0
  have hr1 : (1 : Int) ≤ r := by omega
  have hr2 : (r : Int) ≤ n := by omega
  have hd1 : decide ((r : Int) < 1) = false := by simp; omega
  have HM := Lib.hid hM
  clear hM
  refine (callsIn_wide (n := 3)).1 ?_
  refine callsIn_of_wp_marks Try.func28 rfl trivial ?_ rfl
  simp only [Try.ntmps28, List.size_toArray, List.length_cons, List.length_nil, Nat.reduceAdd, Nat.reduceSub, Array.replicate_succ, Array.replicate_zero, List.push_toArray, List.append_toArray, List.nil_append, List.cons_append]
  refine wpIn_wide.2 ?_
  go_wp2_with fail
  obtain ⟨W, hW⟩ : ∃ W, W = (((w.alloc (.cells #[.pointer (some ⟨p, 0, none⟩)] 58)).alloc (.cells #[.int .i64 r] 3)).alloc (.cells #[.int .i64 0] 3)).alloc (.cells #[.int .i64 0] 24) := ⟨_, rfl⟩
  rw [← hW]
  have hB : Below w.heap.size w W := by rw [hW]; exact ((((Below.refl _ w).alloc (Nat.le_refl _) _).alloc (by simp) _).alloc (by simp; omega) _).alloc (by simp; omega) _
  have hz : W.heap.size = w.heap.size + 4 := by rw [hW]; simp
  have hP : W.heap[w.heap.size]? = some (.cells #[.pointer (some ⟨p, 0, none⟩)] 58 (0, 0)) := by
    rw [hW]; exact ((Below.heap_alloc _ _ _ (by simp; omega)).trans ((Below.heap_alloc _ _ _ (by simp; omega)).trans ((Below.heap_alloc _ _ _ (by simp)).trans (heap_alloc_new w _))))
  have hR : W.heap[w.heap.size + 1]? = some (.cells #[.int .i64 r] 3 (0, 0)) := by
    rw [hW]; refine (Below.heap_alloc _ _ _ (by simp)).trans ((Below.heap_alloc _ _ _ (by simp)).trans ?_)
    have h := heap_alloc_new (w.alloc (.cells #[.pointer (some ⟨p, 0, none⟩)] 58)) (.cells #[.int .i64 r] 3)
    rw [World.size_alloc] at h; exact h
  have hA : W.heap[w.heap.size + 1 + 1]? = some (.cells #[.int .i64 0] 3 (0, 0)) := by
    rw [hW]; refine (Below.heap_alloc _ _ _ (by simp)).trans ?_
    have h := heap_alloc_new ((w.alloc (.cells #[.pointer (some ⟨p, 0, none⟩)] 58)).alloc (.cells #[.int .i64 r] 3)) (.cells #[.int .i64 0] 3)
    rw [World.size_alloc, World.size_alloc] at h; exact h
  have hE : W.heap[w.heap.size + 1 + 1 + 1]? = some (.cells #[.int .i64 0] 24 (0, 0)) := by
    rw [hW]
    have h := heap_alloc_new (((w.alloc (.cells #[.pointer (some ⟨p, 0, none⟩)] 58)).alloc (.cells #[.int .i64 r] 3)).alloc (.cells #[.int .i64 0] 3)) (.cells #[.int .i64 0] 24)
    rw [World.size_alloc, World.size_alloc, World.size_alloc] at h; exact h
  have hMW := HM.out.below hB hp hg
  clear hW
  have hcp : W.cell? ⟨w.heap.size, 0, none⟩ = some (.pointer (some ⟨p, 0, none⟩)) := by simp [World.cell?, hP]
  have hcr : W.cell? ⟨w.heap.size + 1, 0, none⟩ = some (.int .i64 r) := by simp [World.cell?, hR]
  have hc0 := hMW.cell0
  have HZ := Lib.hid hz
  have HMW := Lib.hid hMW
  have HP := Lib.hid hP
  have HR := Lib.hid hR
  have HA := Lib.hid hA
  have HE := Lib.hid hE
  have HB := Lib.hid hB
  clear hz hMW hP hR hA hE hB
  go_quiet (fail)
  go_wp2_with (go_at_call 36; refine ((callsIn_wide (n := 3)).1 (rows_in _ _)).mono ?_; rintro e w' ⟨rfl, rfl⟩)
  obtain ⟨V, hV⟩ : ∃ V, V = (W.drewN nq).alloc (.cells #[.pointer (some ⟨p, 0, none⟩)] 58) := ⟨_, rfl⟩
  rw [← hV]
  have hVB : Below W.heap.size W V := by rw [hV]; exact (below_drewN (Below.refl _ _) _).alloc (by simp) _
  have hVz : W.heap.size + 1 ≤ V.heap.size := by rw [hV]; simp
  have hVc : V.cell? ⟨W.heap.size, 0, none⟩ = some (.pointer (some ⟨p, 0, none⟩)) := by
    have h := heap_alloc_new (W.drewN nq) (.cells #[.pointer (some ⟨p, 0, none⟩)] 58)
    have h' : V.heap[W.heap.size]? = some (.cells #[.pointer (some ⟨p, 0, none⟩)] 58 (0, 0)) := by rw [hV]; exact h
    simp [World.cell?, h']
  have hz : w.heap.size + 4 ≤ W.heap.size := Nat.le_of_eq HZ.out.symm
  have hMV := HMW.out.below hVB (by omega) (by omega)
  have hP := (hVB.block w.heap.size (by omega)).trans HP.out
  have hR := (hVB.block (w.heap.size + 1) (by omega)).trans HR.out
  have hA := (hVB.block (w.heap.size + 1 + 1) (by omega)).trans HA.out
  have hE := (hVB.block (w.heap.size + 1 + 1 + 1) (by omega)).trans HE.out
  have hBV : Below w.heap.size w V := HB.out.trans (hVB.mono (by omega))
  clear hV
  refine (wpIn_wide (n := 3)).1 ?_
  refine wpIn_rangeFunc_ownF rfl (by omega) (gf := 45) (lb := #[.pointer (some ⟨W.heap.size, 0, none⟩)]) rfl trivial (enters_of Try.func45 (by kernel_rfl) rfl)
    (rows_stops p g n W.heap.size f V hn hMV (by omega) hVc) belowK_t (belowK_b (Nat.le_refl _)) (Below.refl _ _) (fun _ => rfl)
    (fun pre W' => (∀ x ∈ pre, x.1.2 < r) ∧ Below V.heap.size V W')
    (fun c pre W' => c = .ret ∧ ∃ q x, pre = q ++ [x] ∧ (∀ y ∈ q, y.1.2 < r) ∧ r ≤ x.1.2 ∧ Took V W' p g n r (w.heap.size + 1 + 1) (w.heap.size + 1 + 1 + 1) f x)
    (OwnFrom.and (ownFrom_pure _ _) (ownFrom_below (Nat.le_refl _) (Nat.le_refl _)))
    (fun c => ownFrom_of_below (fun s A h => by obtain ⟨_, q, x, _, _, _, h⟩ := h; exact h.mod.size) (fun s A B h hb => by
      obtain ⟨h0, q, x, h1, h2, h3, h4⟩ := h
      exact ⟨h0, q, x, h1, h2, h3, h4.below hMV.plt hMV.glt (by omega) (by omega) hb⟩))
    ⟨fun x hx => (by cases hx), Below.refl _ _⟩
    (fun x => { tmps := #[.pointer (some ⟨p, 0, none⟩), .int .i64 r, .pointer (some ⟨w.heap.size, 0, none⟩), .pointer (some ⟨w.heap.size + 1, 0, none⟩), .pointer (some ⟨w.heap.size + 1 + 1, 0, none⟩), .pointer (some ⟨w.heap.size + 1 + 1 + 1, 0, none⟩),
      .int .i64 (x.1.1 : Int), .int .i64 (x.1.2 : Int), .bool false, .pointer (some ⟨p, 0, none⟩), .bool false, .bool false, .int .i64 r, .bool false, .bool false, .int .i64 r, .pointer (some ⟨p, 0, none⟩), .pointer (some ⟨p, 0, none⟩), .pointer (some ⟨p, 0, none⟩),
      .slice (some ⟨g, 0, none⟩) n n, .int .i64 n, .bool false, .bool false, .pointer (some ⟨p, 0, none⟩), .func (.func 45) #[] #[.pointer (some ⟨W.heap.size, 0, none⟩)], .int .i64 (x.1.1 : Int), .int .i64 (x.1.2 : Int), undef, undef, undef, undef, undef, undef, undef, undef], defers := [] }) ?assign ?body ?done ?stop
  case assign =>
    intro l x W K hK
    simp only [encR]
    gi_wp2
    exact hK
  case body =>
    rintro l pre x X ⟨hq, hb⟩ _
    obtain ⟨p1, p2, p3, p4⟩ := x.2
    have hcp : X.cell? ⟨w.heap.size, 0, none⟩ = some (.pointer (some ⟨p, 0, none⟩)) := by simp [World.cell?, (hb.block _ (by omega)).trans hP]
    have hcr : X.cell? ⟨w.heap.size + 1, 0, none⟩ = some (.int .i64 r) := by simp [World.cell?, (hb.block _ (by omega)).trans hR]
    have hMX := hMV.below hb hMV.plt hMV.glt
    have HQ := Lib.hid hq
    have HBX := Lib.hid hb
    by_cases hr : r ≤ x.1.2
    · have HMK := Lib.hid (mark_any p g n x.1.1 r f X hn hMX (by omega) (by omega) (fun j h1 h2 => p3 j h1 (by omega)))
      have hge : (r : Int) ≤ x.1.2 := by omega
      clear hq hb p3 p4 hMX
      gi_wp2_with (refine ⟨trivial, ?_⟩; gi_at_call 37; refine (CallsIn.inRound l (callsIn_wide.2 HMK.out)).mono ?_; rintro e Y ⟨rfl, hm, hk⟩; have hYA : Y.heap[w.heap.size + 1 + 1]? = some (.cells #[.int .i64 0] 3 (0, 0)) := (hm.block _ (by have := HBX.out.size; omega) (by unfold MS; omega)).trans ((HBX.out.block _ (by omega)).trans hA); have hYE : Y.heap[w.heap.size + 1 + 1 + 1]? = some (.cells #[.int .i64 0] 24 (0, 0)) := (hm.block _ (by have := HBX.out.size; omega) (by unfold MS; omega)).trans ((HBX.out.block _ (by omega)).trans hE); have hcA : Y.cell? ⟨w.heap.size + 1 + 1, 0, none⟩ = some (.int .i64 0) := (by simp [World.cell?, hYA]); have hcE : Y.cell? ⟨w.heap.size + 1 + 1 + 1, 0, none⟩ = some (.int .i64 0) := (by simp [World.cell?, hYE]); have hfA : Y.frozen? ⟨w.heap.size + 1 + 1, 0, none⟩ = false := (by simp [World.frozen?, hYA]); have hfE : Y.frozen? ⟨w.heap.size + 1 + 1 + 1, 0, none⟩ = false := (by simp [World.frozen?, hYE]); have HYA := Lib.hid hYA; have HYE := Lib.hid hYE; have HM' := Lib.hid hm; have HK' := Lib.hid hk; clear hm hk hYA hYE)
      have hT := took_end (x := x) hMV HBX.out HM'.out HK'.out HYA.out HYE.out hp hg (by omega)
      exact ⟨keeps_of_mod hT.2 (fun k o hk ho => by
        rcases hk with (rfl | rfl) | rfl | rfl
        · rw [(HBX.out.block _ hMV.plt).trans hMV.at_] at ho; cases ho; rfl
        · obtain ⟨cur, h1, _⟩ := hMV.row; rw [(HBX.out.block _ hMV.glt).trans h1] at ho; cases ho; rfl
        · rw [(HBX.out.block _ (by omega)).trans hA] at ho; cases ho; rfl
        · rw [(HBX.out.block _ (by omega)).trans hE] at ho; cases ho; rfl), rfl, pre, x, rfl, HQ.out, hr, hT.1⟩
    · have hlt : (x.1.2 : Int) < r := by omega
      clear hq hb p3 p4
      gi_wp2
      exact ⟨KeepsOthers.refl _, Below.refl _ _, fun y hy => (by
        rcases List.mem_append.1 hy with h | h
        · exact HQ.out y h
        · obtain rfl : y = x := by simpa using h
          omega), HBX.out⟩
  case done =>
    rintro D ys X hD hys ⟨hq, hb⟩ hK
    have hlow := none_low (by omega) hq hys
    have hXA : X.heap[w.heap.size + 1 + 1]? = some (.cells #[.int .i64 0] 3 (0, 0)) := (hb.block _ (by omega)).trans hA
    have hXE : X.heap[w.heap.size + 1 + 1 + 1]? = some (.cells #[.int .i64 0] 24 (0, 0)) := (hb.block _ (by omega)).trans hE
    have hcA : X.cell? ⟨w.heap.size + 1 + 1, 0, none⟩ = some (.int .i64 0) := by simp [World.cell?, hXA]
    have hcE : X.cell? ⟨w.heap.size + 1 + 1 + 1, 0, none⟩ = some (.int .i64 0) := by simp [World.cell?, hXE]
    have hfA : X.frozen? ⟨w.heap.size + 1 + 1, 0, none⟩ = false := by simp [World.frozen?, hXA]
    have hfE : X.frozen? ⟨w.heap.size + 1 + 1 + 1, 0, none⟩ = false := by simp [World.frozen?, hXE]
    have HL := Lib.hid hlow
    have HK := Lib.hid hK
    have HXA := Lib.hid hXA
    have HXE := Lib.hid hXE
    have HBX := Lib.hid (hBV.trans (hb.mono (by omega)))
    clear hlow hK hq hys hb hXA hXE
    go_wp2
    have hK' := (KeepsOthers.setCell (X.setCell ⟨w.heap.size + 1 + 1, 0, none⟩ (.int .i64 0)) ⟨w.heap.size + 1 + 1 + 1, 0, none⟩ (.int .i64 4)).same D _ ((KeepsOthers.setCell X ⟨w.heap.size + 1 + 1, 0, none⟩ (.int .i64 0)).same D _ HK.out rfl) rfl
    refine ⟨by simp, .inl ⟨_, _, rfl, run_takeDeferred hK', ?_⟩⟩
    have hA2 : ((X.setCell ⟨w.heap.size + 1 + 1, 0, none⟩ (.int .i64 0)).setCell ⟨w.heap.size + 1 + 1 + 1, 0, none⟩ (.int .i64 4)).heap[w.heap.size + 1 + 1]? = some (.cells #[.int .i64 0] 3 (0, 0)) := by
      rw [heap_setCell_other _ _ _ _ (by simp)]
      exact heap_setCell_same X (w.heap.size + 1 + 1) 0 _ 3 _ HXA.out
    have hE2 : ((X.setCell ⟨w.heap.size + 1 + 1, 0, none⟩ (.int .i64 0)).setCell ⟨w.heap.size + 1 + 1 + 1, 0, none⟩ (.int .i64 4)).heap[w.heap.size + 1 + 1 + 1]? = some (.cells #[.int .i64 4] 24 (0, 0)) := by
      refine heap_setCell_same _ (w.heap.size + 1 + 1 + 1) 0 #[.int .i64 0] 24 _ ?_
      rw [heap_setCell_other _ _ _ _ (by simp)]; exact HXE.out
    have hb2 := (HBX.out.setCell (p := ⟨w.heap.size + 1 + 1, 0, none⟩) (by show w.heap.size ≤ w.heap.size + 1 + 1; omega) (.int .i64 0)).setCell (p := ⟨w.heap.size + 1 + 1 + 1, 0, none⟩) (by show w.heap.size ≤ w.heap.size + 1 + 1 + 1; omega) (.int .i64 4)
    obtain ⟨Y, hY⟩ : ∃ Y, Y = (X.setCell ⟨w.heap.size + 1 + 1, 0, none⟩ (.int .i64 0)).setCell ⟨w.heap.size + 1 + 1 + 1, 0, none⟩ (.int .i64 4) := ⟨_, rfl⟩
    rw [← hY] at hK' hA2 hE2 hb2 ⊢
    have hbD := belowK_b (w := V) (Nat.le_refl _) Y D _ (.deferred none) hD hK' rfl rfl
    have hc1 : (Y.putObj D (.deferred none)).cell? ⟨w.heap.size + 1 + 1, 0, none⟩ = some (.int .i64 0) := by simp [World.cell?, (hbD.block _ (by omega)).trans hA2]
    have hc2 : (Y.putObj D (.deferred none)).cell? ⟨w.heap.size + 1 + 1 + 1, 0, none⟩ = some (.int .i64 4) := by simp [World.cell?, (hbD.block _ (by omega)).trans hE2]
    refine ⟨.tuple #[.int .i64 0, .int .i64 4], ?_, ?_⟩
    · simp [results, Try.f28, go_sem, hc1, hc2]
    · unfold TakePost
      rw [HL.out]
      exact ⟨rfl, hb2.trans (hbD.mono (by omega))⟩
  case stop =>
    rintro D c pre X hD ⟨q', x', hq', hR'⟩ ⟨rfl, q, x, rfl, hq, hx, hT⟩ hK
    obtain ⟨rfl, rfl⟩ := snoc_inj hq'
    have hlow := took_low (by omega) hq hx hR'
    have HL := Lib.hid hlow
    have HK := Lib.hid hK
    have HT := Lib.hid hT
    clear hlow hK hq hR' hT
    gi_wp2
    refine ⟨by simp, .inl ⟨_, _, rfl, run_takeDeferred HK.out, ?_⟩⟩
    have hbD := belowK_b (w := V) (Nat.le_refl _) X D _ (.deferred none) hD HK.out rfl rfl
    have hT' := HT.out.below hMV.plt hMV.glt (by omega) (by omega) hbD
    have hc1 : (X.putObj D (.deferred none)).cell? ⟨w.heap.size + 1 + 1, 0, none⟩ = some (.int .i64 (x.1.1 : Int)) := by simp [World.cell?, hT'.a]
    have hc2 : (X.putObj D (.deferred none)).cell? ⟨w.heap.size + 1 + 1 + 1, 0, none⟩ = some (.int .i64 0) := by simp [World.cell?, hT'.e]
    refine ⟨.tuple #[.int .i64 (x.1.1 : Int), .int .i64 0], ?_, ?_⟩
    · simp [results, Try.f28, go_sem, hc1, hc2]
    · unfold TakePost
      rw [HL.out]
      exact ⟨rfl, (Mod.of_below (S := MS p g) hBV (Nat.le_refl _)).trans hT'.mod (fun i hi h => by rcases h with h | h | h; exact h; omega; omega), hT'.mks⟩
end Go.Proofs.Ytjcnaefgffnphaa
