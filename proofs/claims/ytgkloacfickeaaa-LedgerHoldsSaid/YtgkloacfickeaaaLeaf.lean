/- The ledger's small functions. -/
import Derived.Test.YtgkloacfickeaaaFind
import Derived.Deep.QuietTactic
import Derived.BigQuiet
namespace Go.Proofs.Ytgkloacfickeaaa
open Go.RowKit
set_option linter.unusedVariables false

theorem end_any (a n al : Int) (h : Bool) (w : World) (_h0 : 0 ≤ a) (_h1 : 0 ≤ n) (_h2 : a ≤ 1048576) (_h3 : n ≤ 1048576) :
    Calls Try.prog 31 #[.agg #[.int .u64 a, .int .u64 n, .int .u64 al, .bool h]] w fun e w' => e = .returned (.int .u64 (a + max n 1)) ∧ Below w.heap.size w w' := by
  go_enter Try.func31, Try.ntmps31
  go_wp2
  all_goals
    go_ret
    exact ⟨ret_int (by omega), (Below.refl _ _).alloc (Nat.le_refl _) _⟩

def pcA (x : Int) : Int := IntKind.u64.wrap (bits BinOp.and IntKind.u64 (x / 2) 6148914691236517205 + bits BinOp.and IntKind.u64 x 6148914691236517205)
def pcB (x : Int) : Int := IntKind.u64.wrap (bits BinOp.and IntKind.u64 (x / 4) 3689348814741910323 + bits BinOp.and IntKind.u64 x 3689348814741910323)
def pcC (x : Int) : Int := bits BinOp.and IntKind.u64 (IntKind.u64.wrap (x / 16 + x)) 1085102592571150095
def pcD (x : Int) : Int := IntKind.u64.wrap (x + x / 256)
def pcE (x : Int) : Int := IntKind.u64.wrap (x + x / 65536)
def pcF (x : Int) : Int := IntKind.u64.wrap (x + x / 4294967296)
def pcI (x : Int) : Int := bits BinOp.and IntKind.i64 (wrap64 (pcF (pcE (pcD (pcC (pcB (pcA x))))))) 127

set_option maxHeartbeats 400000 in
theorem ones_any (x : Int) (w : World) (h0 : 0 ≤ x) (h1 : x ≤ 18446744073709551615) :
    Calls Try.prog 49 #[.int .u64 x] w fun e w' => e = .returned (.int .i64 (pcI x)) ∧ w = w' := by
  go_enter Try.func49, Try.ntmps49
  go_wp2
  go_ret
  exact ⟨rfl, rfl⟩

def isPow2 (x : Int) : Bool := decide (x ∈ [1, 2, 4, 8, 16, 32, 64, 128, 256, 512, 1024])
theorem pc_small : ∀ x : Fin 1025, (pcI (x.val : Int) == 1) = isPow2 (x.val : Int) := by decide +kernel
def pow2B (x : Int) : Bool := pcI x == 1
theorem pow2B_small {x : Int} (h0 : 0 ≤ x) (h1 : x ≤ 1024) : pow2B x = isPow2 x := by
  have := pc_small ⟨x.toNat, by omega⟩
  simp only [show ((x.toNat : Nat) : Int) = x from by omega] at this
  exact this

/-- What Pow2 answers: of a number up to 1024 whether it is one. -/
def PowSays (x : Int) (b : Bool) : Prop := x ≤ 1024 → b = isPow2 x
def PowPost (x : Int) (w : World) (e : Ending) (w' : World) : Prop := ∃ b, PowSays x b ∧ e = .returned (.bool b) ∧ w = w'
theorem pow_any (x : Int) (w : World) (h0 : 0 ≤ x) (h1 : x ≤ 18446744073709551615) : Calls Try.prog 45 #[.int .u64 x] w (PowPost x w) := by
  obtain ⟨y, hy⟩ : ∃ y, y = pcI x := ⟨_, rfl⟩
  have H : Calls Try.prog 49 #[.int .u64 x] w fun e w' => e = .returned (.int .i64 y) ∧ w = w' := hy ▸ ones_any x w h0 h1
  have hs : PowSays x (y == 1) := fun h => by rw [hy]; exact pow2B_small h0 h
  have HS := Lib.hid hs
  clear hs hy
  go_enter Try.func45, Try.ntmps45
  go_wp2_with (go_at_call 49; refine H.mono ?_; rintro r w1 ⟨rfl, rfl⟩)
  go_ret
  exact ⟨_, HS.out, rfl, rfl⟩

theorem place_any (p base : Nat) (v : Value) (es : List Ent) (t : Int) (w : World) (hlen : es.length ≤ 1000000) (hsort : Rising es) (hL : Led w base p v es) :
    Calls Try.prog 28 #[.pointer (some ⟨p, 0, none⟩), .int .u64 t] w fun r w' => r = .returned (.tuple #[.int .i64 (lb es t), .bool (found es t)]) ∧ Below w.heap.size w w' := by
  obtain ⟨A, c, rfl, _, _⟩ := hL.2.2.form
  have hc := hL.cell
  have HL := Lib.hid hL
  have HS := Lib.hid hsort
  clear hL hsort
  go_enter Try.func28, Try.ntmps28
  go_wp2_with (go_at_call 41; refine (bs_any es A c base t _ hlen HS.out HL.out.2.2).mono ?_; rintro r w1 ⟨rfl, hb1⟩)
  go_ret2
  exact ⟨rfl, hb1⟩
end Go.Proofs.Ytgkloacfickeaaa
