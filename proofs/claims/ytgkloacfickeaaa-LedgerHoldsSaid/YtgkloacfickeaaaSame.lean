/- Same; great; the nil ledger's Drop. -/
import Derived.Test.YtgkloacfickeaaaRefRow
import Derived.Test.YtgkloacfickeaaaHold
import Derived.BigQuiet
namespace Go.Proofs.Ytgkloacfickeaaa
open Go.RowKit
set_option linter.unusedVariables false

theorem own_blk_at {w : World} {base c k : Nat} {A : Option Addr} {es : List Ent} {e : Ent} (h : w.ownsRow base 35 3 (.slice A es.length c) es.length (blks es)) (he : es[k]? = some e) :
    ∃ g, A = some ⟨g, 0, none⟩ ∧ g < w.heap.size ∧ w.cell? ⟨g, k * 3, none⟩ = some (.int .u64 e.a) ∧ w.cell? ⟨g, k * 3 + 1, none⟩ = some (.int .u64 e.n) ∧ w.cell? ⟨g, k * 3 + 2, none⟩ = some (.int .u64 e.al) := by
  have hk : k < es.length := (List.getElem?_eq_some_iff.1 he).1
  obtain ⟨g, rfl, _, hg, hc, _⟩ := own_at h (by omega)
  refine ⟨g, rfl, hg, ?_, ?_, ?_⟩
  · exact (hc (k * 3) (by omega)).trans (getElem?_blks he 0 (by omega))
  · exact (hc (k * 3 + 1) (by omega)).trans (getElem?_blks he 1 (by omega))
  · exact (hc (k * 3 + 2) (by omega)).trans (getElem?_blks he 2 (by omega))

theorem below_drewN' {B n : Nat} {w w1 : World} (h : Below B w w1) : Below B w (w1.drewN n) := ⟨h.os, h.tape, h.output, h.size, h.block⟩

set_option maxHeartbeats 2000000 in
theorem same_any (b1 b2 c1 c2 : Nat) (A1 A2 : Option Addr) (es : List Ent) (w : World) (hlen : es.length ≤ 1000000)
    (h1 : w.ownsRow b1 35 3 (.slice A1 es.length c1) es.length (blks es)) (h2 : w.ownsRow b2 35 3 (.slice A2 es.length c2) es.length (blks es)) :
    Calls Try.prog 8 #[.slice A1 es.length c1, .slice A2 es.length c2] w fun r w' => r = .returned (.bool true) ∧ Below w.heap.size w w' := by
  have H1 := Lib.hid h1
  have H2 := Lib.hid h2
  clear h1 h2
  go_enter Try.func8, Try.ntmps8
  go_wp2
  go_loopw [13] (fun i wr => ∃ k : Nat, k ≤ es.length ∧ i = .int .i64 k ∧ Below w.heap.size w wr) (fun i _ => es.length - (intOf i).toNat)
  case atStart => exact ⟨0, Nat.zero_le _, rfl, Below.refl _ _⟩
  case round =>
    obtain ⟨k, hk, rfl, hB⟩ := hrel
    by_cases hlt : k < es.length
    · obtain ⟨e, he⟩ : ∃ e, es[k]? = some e := ⟨es[k], by simp [hlt]⟩
      obtain ⟨g, rfl, hg, ha0, ha1, ha2⟩ := own_blk_at H1.out he
      obtain ⟨g', rfl, hg', hb0, hb1, hb2⟩ := own_blk_at H2.out he
      rw [← hB.cell (p := ⟨g, _, none⟩) hg] at ha0 ha1 ha2
      rw [← hB.cell (p := ⟨g', _, none⟩) hg'] at hb0 hb1 hb2
      have hki : (k : Int) < es.length := by omega
      clear he
      go_wp2
      go_quiet (fail)
      go_wp2
      go_roundw
      case rel => exact ⟨k + 1, by omega, by go_num, by first | exact hB | exact below_drewN' hB⟩
      case measure => simp [intOf]; omega
    · go_wp2
      go_ret
      exact ⟨rfl, hB⟩

set_option maxHeartbeats 1000000 in
theorem drop_nil (w : World) : Calls Try.prog 19 #[.pointer none, .slice none 0 0] w fun r w' => r = .returned (.int .i64 1) ∧ Below w.heap.size w w' := by
  go_enter Try.func19, Try.ntmps19
  go_wp2
  go_ret
  exact ⟨rfl, by first | exact Below.refl _ _ | exact (Below.refl _ _).alloc (Nat.le_refl _) _⟩
end Go.Proofs.Ytgkloacfickeaaa
