/- One act in both ledgers: whatever it is. -/
import Derived.Test.YtgkloacfickeaaaFits
import Derived.Test.YtgkloacfickeaaaDoTell
import Derived.Test.YtgkloacfickeaaaRefAddAny
namespace Go.Proofs.Ytgkloacfickeaaa
open Go.RowKit
set_option linter.unusedVariables false

set_option maxRecDepth 100000 in
set_option maxHeartbeats 4000000 in
theorem do_add (p q base m c : Nat) (kind a n al : Int) (A : Option Addr) (es : List Ent) (w : World) (hk1 : kind ≠ 1) (hk2 : kind ≠ 2) (hk3 : kind ≠ 3) (hk4 : kind ≠ 4) (hk5 : kind ≠ 5) (hlen : es.length ≤ 999999) (hs : Fit es) (hB : Both w base p q es)
    (a0 : 0 ≤ a) (a1 : a ≤ 18446744073709551615) (n0 : 0 ≤ n) (n1 : n ≤ 18446744073709551615) (l0 : 0 ≤ al) (l1 : al ≤ 18446744073709551615) :
    Calls Try.prog 7 #[.pointer (some ⟨p, 0, none⟩), .pointer (some ⟨q, 0, none⟩), .agg #[.int .i64 kind, .int .u64 a, .int .u64 n, .int .u64 al, .slice A m c]] w (DoPost base p q es w) := by
  obtain ⟨v, vL, vH, hL, hR⟩ := hB
  have hbW : base ≤ w.heap.size := by have := hL.1; have := hL.lt; omega
  have e1 : (kind == 1) = false := by simpa using hk1
  have e2 : (kind == 2) = false := by simpa using hk2
  have e3 : (kind == 3) = false := by simpa using hk3
  have e4 : (kind == 4) = false := by simpa using hk4
  have e5 : (kind == 5) = false := by simpa using hk5
  have hb0 : Below w.heap.size w ((w.alloc (.cells #[.int .i64 kind, .int .u64 a, .int .u64 n, .int .u64 al, .slice A m c] 38)).drew) := ((Below.refl _ w).alloc (Nat.le_refl _) _).drew
  have hL1 : Led ((w.alloc (.cells #[.int .i64 kind, .int .u64 a, .int .u64 n, .int .u64 al, .slice A m c] 38)).drew) base p v es := hL.below hb0 (Nat.le_refl _)
  have hR1 : Ref ((w.alloc (.cells #[.int .i64 kind, .int .u64 a, .int .u64 n, .int .u64 al, .slice A m c] 38)).drew) base q vL vH es := hR.below hb0 (Nat.le_refl _)
  have hnb : ¬ LS p v w.heap.size := fun h => by have := ls_lt hL h; omega
  have HXW : Hid (((w.alloc (.cells #[.int .i64 kind, .int .u64 a, .int .u64 n, .int .u64 al, .slice A m c] 38)).drew).heap[w.heap.size]? = some (.cells #[.int .i64 kind, .int .u64 a, .int .u64 n, .int .u64 al, .slice A m c] 38 (0, 0))) := Lib.hid (heap_alloc_new w (.cells #[.int .i64 kind, .int .u64 a, .int .u64 n, .int .u64 al, .slice A m c] 38))
  have HCX : Hid (∀ W : World, W.heap[w.heap.size]? = some (.cells #[.int .i64 kind, .int .u64 a, .int .u64 n, .int .u64 al, .slice A m c] 38 (0, 0)) → W.cell? ⟨w.heap.size, 1, none⟩ = some (.int .u64 a) ∧ W.cell? ⟨w.heap.size, 2, none⟩ = some (.int .u64 n) ∧ W.cell? ⟨w.heap.size, 3, none⟩ = some (.int .u64 al)) := Lib.hid (fun W h => by simp [World.cell?, h])
  have HB0 := Lib.hid (hb0.mono hbW)
  have HL1 := Lib.hid hL1
  have HR1 := Lib.hid hR1
  have HNB := Lib.hid hnb
  have HD := Lib.hid (add_any p base v es a n al _ hlen hs hL1 a0 a1 n0 n1 l0 l1)
  have HS := Lib.hid hs
  have HFT := Lib.hid (fit_add hs a0 n0 l0 (n := n) (a := a) (al := al))
  clear hb0 hL1 hR1 hnb hL hR hs hk1 hk2 hk3 hk4 hk5
  go_enter Try.func7, Try.ntmps7
  go_wp2
  go_region_held3 (fun w' => w'.cell? ⟨w.heap.size, 1, none⟩ = some (.int .u64 a) ∧ w'.cell? ⟨w.heap.size, 2, none⟩ = some (.int .u64 n) ∧ w'.cell? ⟨w.heap.size, 3, none⟩ = some (.int .u64 al)) (first | exact HCX.out _ HX2.out | exact HCX.out _ HX1.out | exact HCX.out _ HXW.out | go_keep)
    (first | (go_at_call 18; refine HD.out.mono ?_; rintro r w1 ⟨rfl, v', hL', hm', _⟩; have HL' := Lib.hid hL'; have HM' := Lib.hid hm'; clear hL' hm'; have HX1 := Lib.hid ((HM'.out.block w.heap.size (by simp) HNB.out).trans HXW.out)) | (go_at_call 27; refine (radd_any q base vL vH es a n al w1 hlen HS.out (HR1.out.of_led HL1.out HM'.out) a0 a1 n0 n1 l0 l1).mono ?_; rintro r w2 ⟨rfl, vL2, vH2, hR2, hm2⟩; have HR2 := Lib.hid hR2; have HM2 := Lib.hid hm2; clear hR2 hm2; have HX2 := Lib.hid ((HR1.out.of_led HL1.out HM'.out).keep38 HX1.out HM2.out)))
  all_goals go_wp2
  all_goals go_ret
  all_goals exact ⟨ret_bool (by simp), _, ⟨_, vL2, vH2, HL'.out.of_ref (HR1.out.of_led HL1.out HM'.out) HM2.out, HR2.out⟩, HFT.out.1, HFT.out.2, (HB0.out.trans (HL1.out.below_mod HM'.out)).trans ((HR1.out.of_led HL1.out HM'.out).below_mod HM2.out)⟩

/-- An act's cells, as a call is handed them. -/
theorem do_any (p q base m c : Nat) (kind a n al : Int) (A : Option Addr) (xs : List Int) (es : List Ent) (w : World) (hlen : es.length ≤ 999999) (hs : Fit es) (hB : Both w base p q es)
    (hA : AdsB w base A m xs) (hm : m ≤ 9223372036854775807)
    (a0 : 0 ≤ a) (a1 : a ≤ 18446744073709551615) (n0 : 0 ≤ n) (n1 : n ≤ 18446744073709551615) (l0 : 0 ≤ al) (l1 : al ≤ 18446744073709551615) :
    Calls Try.prog 7 #[.pointer (some ⟨p, 0, none⟩), .pointer (some ⟨q, 0, none⟩), .agg #[.int .i64 kind, .int .u64 a, .int .u64 n, .int .u64 al, .slice A m c]] w (DoPost base p q es w) := by
  by_cases hk1 : kind = 1
  · exact do_drop p q base m c kind a n al A xs es w hk1 hlen hs hB hA hm
  by_cases hk2 : kind = 2
  · exact do_hold p q base m c kind a n al A xs es w hk2 hlen hs hB hA hm
  by_cases hk3 : kind = 3
  · exact do_let p q base m c kind a n al A xs es w hk3 hlen hs hB hA hm
  by_cases hk4 : kind = 4
  · exact do_tell p q base m c kind a n al A es w hk4 hlen hs hB a0 a1 n0 n1 l0 l1
  by_cases hk5 : kind = 5
  · exact do_free p q base m c kind a n al A es w hk5 hlen hs hB a0 a1 n0 n1 l0 l1
  exact do_add p q base m c kind a n al A es w hk1 hk2 hk3 hk4 hk5 hlen hs hB a0 a1 n0 n1 l0 l1
end Go.Proofs.Ytgkloacfickeaaa
