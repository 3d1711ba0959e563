/- What a call on acts reads; great. -/
import Derived.Test.YtgkloacfickeaaaLeaf
namespace Go.Proofs.Ytgkloacfickeaaa
open Go.RowKit
set_option linter.unusedVariables false

/-- An act: what is done, a block, and addresses (where they lie, how many, the row's room, what they are). -/
structure ActV where
  kind : Int
  a : Int
  n : Int
  al : Int
  A : Option Addr
  m : Nat
  c : Nat
  xs : List Int

/-- The five cells of an act, as they lie in a block from a place on. -/
def ActAt (w : World) (b o : Nat) (x : ActV) : Prop :=
  w.cell? ⟨b, o, none⟩ = some (.int .i64 x.kind) ∧ w.cell? ⟨b, o + 1, none⟩ = some (.int .u64 x.a) ∧ w.cell? ⟨b, o + 2, none⟩ = some (.int .u64 x.n) ∧ w.cell? ⟨b, o + 3, none⟩ = some (.int .u64 x.al) ∧ w.cell? ⟨b, o + 4, none⟩ = some (.slice x.A x.m x.c)

/-- Acts that a call may read, in a block ahead of B. -/
def Acts (w : World) (B : Nat) (AA : Option Addr) (N : Nat) (acts : List ActV) : Prop :=
  acts.length = N ∧ (0 < N → ∃ b o, AA = some ⟨b, o, none⟩ ∧ b < B ∧ ∀ (k : Nat) (x : ActV), acts[k]? = some x → ActAt w b (o + k * 5) x)

theorem ActAt.keep {w w' : World} {B b o : Nat} {x : ActV} (h : ActAt w b o x) (hb : Below B w w') (hB : b < B) : ActAt w' b o x := by
  obtain ⟨h0, h1, h2, h3, h4⟩ := h
  have hk : ∀ j, w'.cell? ⟨b, j, none⟩ = w.cell? ⟨b, j, none⟩ := fun j => hb.cell (p := ⟨b, j, none⟩) hB
  exact ⟨(hk _).trans h0, (hk _).trans h1, (hk _).trans h2, (hk _).trans h3, (hk _).trans h4⟩
theorem Acts.at {w : World} {B N k : Nat} {AA : Option Addr} {acts : List ActV} (h : Acts w B AA N acts) (hk : k < N) :
    ∃ b o x, AA = some ⟨b, o, none⟩ ∧ b < B ∧ acts[k]? = some x ∧ ActAt w b (o + k * 5) x := by
  obtain ⟨b, o, e, hb, hc⟩ := h.2 (by omega)
  have hl : k < acts.length := by have := h.1; omega
  exact ⟨b, o, acts[k], e, hb, List.getElem?_eq_getElem hl, hc k _ (List.getElem?_eq_getElem hl)⟩

set_option maxHeartbeats 2000000 in
theorem great_any (AA : Option Addr) (N C : Nat) (acts : List ActV) (w : World) (hA : Acts w w.heap.size AA N acts) (hN : N ≤ 9223372036854775807) :
    Calls Try.prog 6 #[.slice AA N C] w fun r w' => (∃ b, r = .returned (.bool b) ∧ (b = false → N ≤ 100)) ∧ Below w.heap.size w w' := by
  have HA := Lib.hid hA
  clear hA
  go_enter Try.func6, Try.ntmps6
  go_wp2
  go_loopw [8, 3] (fun i s wr => ∃ k : Nat, ∃ z : Int, k ≤ N ∧ i = .int .i64 k ∧ s = .int .i64 z ∧ Below w.heap.size w wr) (fun i s _ => N - (intOf i).toNat)
  case atStart => exact ⟨0, 0, Nat.zero_le _, rfl, rfl, Below.refl _ _⟩
  case round =>
    obtain ⟨k, z, hk, rfl, rfl, hB⟩ := hrel
    have hzr := hB.size
    by_cases hlt : k < N
    · obtain ⟨b, o, x, rfl, hab, hx, hat⟩ := HA.out.at hlt
      obtain ⟨h0, h1, h2, h3, h4⟩ := hat.keep hB hab
      have hki : (k : Int) < N := by omega
      clear hx hat
      go_wp2
      go_roundw
      case rel => exact ⟨k + 1, _, by omega, by go_num, rfl, hB.alloc hzr _⟩
      case measure => simp [intOf]; omega
    · by_cases h100 : N ≤ 100
      · have hd : decide ((100 : Int) < N) = false := by simp; omega
        go_wp2
        all_goals go_ret
        all_goals exact ⟨⟨_, rfl, fun _ => h100⟩, hB⟩
      · have hd : decide ((100 : Int) < N) = true := by simp; omega
        go_wp2
        all_goals go_ret
        all_goals exact ⟨⟨_, rfl, fun h => by simp at h⟩, hB⟩
end Go.Proofs.Ytgkloacfickeaaa
