/- The arena's contracts as the statements use them; the document's example. -/
import Derived.Test.YtjcnaefgffnphaaRsv
namespace Go.Proofs.Ytjcnaefgffnphaa
open Go.RowKit
set_option linter.unusedVariables false

/-- An arena whose blocks all lie from B on. -/
def Arn (B : Nat) (w : World) (p : Nat) (s : St) : Prop := ∃ pm g vR vT, Ar0 w p pm g vR vT s ∧ ∀ k, AB p pm g vR vT k → B ≤ k

section
variable {B p : Nat} {w w' : World} {s s' : St}
theorem Arn.size (h : Arn B w p s) : B ≤ w.heap.size := by
  obtain ⟨pm, g, vR, vT, h1, h2⟩ := h
  have := h2 p (.inl rfl)
  have := h1.plt
  omega
theorem Arn.below (h : Arn B w p s) (hb : Below w.heap.size w w') : Arn B w' p s := by
  obtain ⟨pm, g, vR, vT, h1, h2⟩ := h
  exact ⟨pm, g, vR, vT, h1.below hb, h2⟩
theorem Arn.ok (h : Arn B w p s) : s.Ok := by obtain ⟨pm, g, vR, vT, h1, h2⟩ := h; exact h1.ok
theorem Arn.few (h : Arn B w p s) : s.refused ≤ 1000000 := by obtain ⟨pm, g, vR, vT, h1, h2⟩ := h; exact h1.few
theorem arn_left {pm g : Nat} {vR vT : Value} (h : Ar0 w p pm g vR vT s) (h2 : ∀ k, AB p pm g vR vT k → B ≤ k) (hL : Left w p pm g vR vT s' w') : Arn B w' p s' ∧ Below B w w' := by
  obtain ⟨vR', vT', h3, hm, hf⟩ := hL
  have hB : B ≤ w.heap.size := Arn.size ⟨pm, g, vR, vT, h, h2⟩
  exact ⟨⟨pm, g, vR', vT', h3, fun k hk => (hf k hk).elim (h2 k) (fun h => by omega)⟩, hm.below h2 hB⟩
end

theorem res_law {B p : Nat} {s : St} {w : World} (h : Arn B w p s) (n : Int) (hf : s.refused + 1 ≤ 1000000) :
    Calls Try.prog 11 #[.pointer (some ⟨p, 0, none⟩), .int .i64 n] w fun r w' => r = .returned (.tuple #[.int .i64 (resS s n).1, .int .i64 (resS s n).2.1]) ∧ Arn B w' p (resS s n).2.2 ∧ Below B w w' := by
  obtain ⟨pm, g, vR, vT, h1, h2⟩ := h
  exact (reserve_any p pm g vR vT s n w h1 hf).mono fun r w' ⟨a, b⟩ => ⟨a, arn_left h1 h2 b⟩
theorem rel_law {B p : Nat} {s : St} {w : World} (h : Arn B w p s) (t : Int) :
    Calls Try.prog 12 #[.pointer (some ⟨p, 0, none⟩), .int .i64 t] w fun r w' => r = .returned (.int .i64 (relS s t).1) ∧ Arn B w' p (relS s t).2 ∧ Below B w w' := by
  obtain ⟨pm, g, vR, vT, h1, h2⟩ := h
  exact (release_any p pm g vR vT s t w h1).mono fun r w' ⟨a, b⟩ => ⟨a, arn_left h1 h2 b⟩
theorem rfs_law {B p : Nat} {s : St} {w : World} (h : Arn B w p s) (bs : List Bool) (A2 : Option Addr) (c2 : Nat) (hr : Reads w w.heap.size 1 A2 bs.length (bs.map Value.bool)) (hl : bs.length ≤ 140737488355328) :
    Calls Try.prog 15 #[.pointer (some ⟨p, 0, none⟩), .slice A2 bs.length c2] w fun r w' => r = .returned (.int .i64 (rfsS s bs).1) ∧ Arn B w' p (rfsS s bs).2 ∧ Below B w w' := by
  obtain ⟨pm, g, vR, vT, h1, h2⟩ := h
  exact (refuse_any p pm g vR vT s bs A2 c2 w h1 hr hl).mono fun r w' ⟨a, b⟩ => ⟨a, arn_left h1 h2 b⟩
theorem giv_law {B p : Nat} {s : St} {w : World} (h : Arn B w p s) :
    Calls Try.prog 13 #[.pointer (some ⟨p, 0, none⟩)] w fun r w' => r = .returned (.int .i64 (given s.L)) ∧ ∃ n, w' = w.drewN n := by
  obtain ⟨pm, g, vR, vT, h1, h2⟩ := h
  exact given_any p pm g vR vT s w h1
theorem ref_law {B p : Nat} {s : St} {w : World} (h : Arn B w p s) :
    Calls Try.prog 14 #[.pointer (some ⟨p, 0, none⟩)] w fun r w' => r = .returned (.int .i64 s.refused) ∧ w = w' := by
  obtain ⟨pm, g, vR, vT, h1, h2⟩ := h
  exact refused_any p pm g vR vT s w h1
theorem regs_law {B p : Nat} {s : St} {w : World} (h : Arn B w p s) :
    Calls Try.prog 16 #[.pointer (some ⟨p, 0, none⟩)] w fun r w' => ∃ u, r = .returned u ∧ OwnR w' w.heap.size u s.L ∧ Below w.heap.size w w' := by
  obtain ⟨pm, g, vR, vT, h1, h2⟩ := h
  exact regions_any p pm g vR vT s w h1
theorem new_law {N K : Int} (n k B : Nat) (w : World) (hN : N = n) (hK : K = k) (h1 : 1 ≤ n) (h2 : n ≤ 64) (h3 : k ≤ n) (hB : B ≤ w.heap.size) :
    Calls Try.prog 10 #[.int .i64 N, .int .i64 K] w fun r w' => ∃ p, r = .returned (.tuple #[.pointer (some ⟨p, 0, none⟩), .int .i64 0]) ∧ Arn B w' p (stNew n k) ∧ Below B w w' := by
  subst hN
  subst hK
  refine (new_any n k w h1 h2 h3).mono fun r w' ⟨a, b, c⟩ => ⟨_, a, ⟨_, _, _, _, c, ?_⟩, b.mono hB⟩
  rintro j (rfl | rfl | rfl | h | h)
  · omega
  · omega
  · omega
  · cases h
  · cases h
theorem rel_nil (t : Int) (w : World) : Calls Try.prog 12 #[.pointer none, .int .i64 t] w fun r w' => r = .returned (.int .i64 1) ∧ w = w' := by
  go_enter Try.func12, Try.ntmps12
  go_wp2
  go_ret
  exact ⟨rfl, rfl⟩

def al0 : St := stNew 4 3
def al1 : St := ⟨4, 3, [⟨0, 2⟩], [], 0⟩
def al2 : St := ⟨4, 3, [⟨0, 2⟩], [], 1⟩
def al3 : St := ⟨4, 3, [⟨0, 2⟩, ⟨2, 1⟩], [], 1⟩
theorem al_1 : resS al0 2 = (0, 0, al1) := by rfl
theorem al_2 : resS al1 2 = (0, 4, al2) := by rfl
theorem al_3 : resS al2 1 = (2, 0, al3) := by rfl

set_option maxRecDepth 100000 in
set_option maxHeartbeats 1000000 in
theorem alive_any (w : World) : Calls Try.prog 9 #[] w fun r w' => r = .returned (.bool true) ∧ Below w.heap.size w w' := by
  have H1 : Hid (∀ W p, Arn w.heap.size W p al0 → Calls Try.prog 11 #[.pointer (some ⟨p, 0, none⟩), .int .i64 2] W fun r w' => r = .returned (.tuple #[.int .i64 0, .int .i64 0]) ∧ Arn w.heap.size w' p al1 ∧ Below w.heap.size W w') :=
    Lib.hid (fun W p h => (res_law h 2 (by decide)).mono fun r w' k => by rw [al_1] at k; exact k)
  have H2 : Hid (∀ W p, Arn w.heap.size W p al1 → Calls Try.prog 11 #[.pointer (some ⟨p, 0, none⟩), .int .i64 2] W fun r w' => r = .returned (.tuple #[.int .i64 0, .int .i64 4]) ∧ Arn w.heap.size w' p al2 ∧ Below w.heap.size W w') :=
    Lib.hid (fun W p h => (res_law h 2 (by decide)).mono fun r w' k => by rw [al_2] at k; exact k)
  have H3 : Hid (∀ W p, Arn w.heap.size W p al2 → Calls Try.prog 11 #[.pointer (some ⟨p, 0, none⟩), .int .i64 1] W fun r w' => r = .returned (.tuple #[.int .i64 2, .int .i64 0]) ∧ Arn w.heap.size w' p al3 ∧ Below w.heap.size W w') :=
    Lib.hid (fun W p h => (res_law h 1 (by decide)).mono fun r w' k => by rw [al_3] at k; exact k)
  go_enter Try.func9, Try.ntmps9
  go_wp2_with fail
  refine (new_law 4 3 w.heap.size w rfl rfl (by omega) (by omega) (by omega) (Nat.le_refl _)).mono ?_
  rintro r w1 ⟨p, rfl, hA1, hb1⟩
  have HA1 := Lib.hid hA1
  have HB1 := Lib.hid hb1
  clear hA1 hb1
  go_wp2_with fail
  refine (H1.out _ _ HA1.out).mono ?_
  rintro r w2 ⟨rfl, hA2, hb2⟩
  have HA2 := Lib.hid hA2
  have HB2 := Lib.hid hb2
  clear hA2 hb2
  go_wp2_with fail
  refine (H2.out _ _ HA2.out).mono ?_
  rintro r w3 ⟨rfl, hA3, hb3⟩
  have HA3 := Lib.hid hA3
  have HB3 := Lib.hid hb3
  clear hA3 hb3
  go_wp2_with fail
  refine (H3.out _ _ HA3.out).mono ?_
  rintro r w4 ⟨rfl, hA4, hb4⟩
  have HA4 := Lib.hid hA4
  have HB4 := Lib.hid hb4
  clear hA4 hb4
  go_wp2_with (first
    | (go_at_call 13; refine (giv_law HA4.out).mono ?_; rintro r w5 ⟨rfl, m, rfl⟩; rw [show given al3.L = 3 from rfl])
    | (go_at_call 14; refine (ref_law (B := w.heap.size) (s := al3) (HA4.out.below (below_drewN (Below.refl _ _) _))).mono ?_; rintro r w6 ⟨rfl, rfl⟩; rw [show al3.refused = 1 from rfl])
    | (go_at_call 12; refine (rel_nil _ _).mono ?_; rintro r w7 ⟨rfl, rfl⟩))
  go_ret
  exact ⟨rfl, below_drewN (((HB1.out.trans HB2.out).trans HB3.out).trans HB4.out) _⟩
end Go.Proofs.Ytjcnaefgffnphaa
