/- One act in both ledgers: Drop, Hold, Let. -/
import Derived.Test.YtgkloacfickeaaaFits
import Derived.Deep.RegionHeld3
namespace Go.Proofs.Ytgkloacfickeaaa
open Go.RowKit
set_option linter.unusedVariables false

/-- Both ledgers stand over the same entries. -/
def Both (w : World) (base p q : Nat) (es : List Ent) : Prop := ∃ v vL vH, Led w base p v es ∧ Ref w base q vL vH es
/-- What an act leaves. -/
def DoPost (base p q : Nat) (es : List Ent) (w : World) (e : Ending) (w' : World) : Prop :=
  e = .returned (.bool true) ∧ ∃ es', Both w' base p q es' ∧ Fit es' ∧ es'.length ≤ es.length + 1 ∧ Below base w w'

set_option maxRecDepth 100000 in
set_option maxHeartbeats 4000000 in
theorem do_drop (p q base m c : Nat) (kind a n al : Int) (A : Option Addr) (xs : List Int) (es : List Ent) (w : World) (hk : kind = 1) (hlen : es.length ≤ 999999) (hs : Fit es) (hB : Both w base p q es)
    (hA : AdsB w base A m xs) (hm : m ≤ 9223372036854775807) :
    Calls Try.prog 7 #[.pointer (some ⟨p, 0, none⟩), .pointer (some ⟨q, 0, none⟩), .agg #[.int .i64 kind, .int .u64 a, .int .u64 n, .int .u64 al, .slice A m c]] w (DoPost base p q es w) := by
  subst hk
  obtain ⟨v, vL, vH, hL, hR⟩ := hB
  have hbW : base ≤ w.heap.size := by have := hL.1; have := hL.lt; omega
  have hb0 : Below w.heap.size w ((w.alloc (.cells #[.int .i64 1, .int .u64 a, .int .u64 n, .int .u64 al, .slice A m c] 38)).drew) := ((Below.refl _ w).alloc (Nat.le_refl _) _).drew
  have hL1 : Led ((w.alloc (.cells #[.int .i64 1, .int .u64 a, .int .u64 n, .int .u64 al, .slice A m c] 38)).drew) base p v es := hL.below hb0 (Nat.le_refl _)
  have hR1 : Ref ((w.alloc (.cells #[.int .i64 1, .int .u64 a, .int .u64 n, .int .u64 al, .slice A m c] 38)).drew) base q vL vH es := hR.below hb0 (Nat.le_refl _)
  have hA1 := hA.keep (hb0.mono hbW)
  have hcx : ((w.alloc (.cells #[.int .i64 1, .int .u64 a, .int .u64 n, .int .u64 al, .slice A m c] 38)).drew).cell? ⟨w.heap.size, 4, none⟩ = some (.slice A m c) := by simp
  have hnb : ¬ LS p v w.heap.size := fun h => by have := ls_lt hL h; omega
  have HXW := Lib.hid (heap_alloc_new w (.cells #[.int .i64 1, .int .u64 a, .int .u64 n, .int .u64 al, .slice A m c] 38))
  have HB0 := Lib.hid (hb0.mono hbW)
  have HL1 := Lib.hid hL1
  have HR1 := Lib.hid hR1
  have HA1 := Lib.hid hA1
  have HCX := Lib.hid hcx
  have HNB := Lib.hid hnb
  have HD := Lib.hid (drop_any p base m c A xs v es _ (by omega) hs hL1 (hA1.ads hL1) hm)
  have HS := Lib.hid hs
  have HFT := Lib.hid (fit_drops hs xs)
  clear hb0 hL1 hR1 hA1 hcx hnb hL hR hA hs
  go_enter Try.func7, Try.ntmps7
  go_wp2
  go_region_held3 (fun w' => w'.cell? ⟨w.heap.size, 4, none⟩ = some (.slice A m c)) (first | exact hcx2 | exact hcx1 | (exact HCX.out) | go_keep)
    (first | (go_at_call 19; refine HD.out.mono ?_; rintro r w1 ⟨rfl, v', hL', hv', hm'⟩; have HL' := Lib.hid hL'; have HM' := Lib.hid hm'; clear hL' hv' hm'; have hcx1 := HM'.out.cell HNB.out HCX.out; have HX1 := Lib.hid ((HM'.out.block w.heap.size (by simp) HNB.out).trans HXW.out)) | (go_at_call 20; refine (reach_drop p q base m c A xs v' vL vH es _ w1 (by omega) HS.out (HR1.out.of_led HL1.out HM'.out) HL'.out (HA1.out.keep (HL1.out.below_mod HM'.out)) hm w.heap.size _ HX1.out).mono ?_; rintro r w2 ⟨rfl, vL2, vH2, hR2, hL2, hb2, hx2⟩; have HR2 := Lib.hid hR2; have HL2 := Lib.hid hL2; have HB2 := Lib.hid hb2; clear hR2 hL2 hb2; have hcx2 : w2.cell? ⟨w.heap.size, 4, none⟩ = some (.slice A m c) := (by simp [World.cell?, hx2])))
  all_goals go_wp2
  all_goals go_ret
  all_goals exact ⟨ret_bool (by simp), _, ⟨_, vL2, vH2, HL2.out, HR2.out⟩, HFT.out.1, by have := HFT.out.2; omega, (HB0.out.trans (HL1.out.below_mod HM'.out)).trans HB2.out⟩

set_option maxRecDepth 100000 in
set_option maxHeartbeats 4000000 in
theorem do_hold (p q base m c : Nat) (kind a n al : Int) (A : Option Addr) (xs : List Int) (es : List Ent) (w : World) (hk : kind = 2) (hlen : es.length ≤ 999999) (hs : Fit es) (hB : Both w base p q es)
    (hA : AdsB w base A m xs) (hm : m ≤ 9223372036854775807) :
    Calls Try.prog 7 #[.pointer (some ⟨p, 0, none⟩), .pointer (some ⟨q, 0, none⟩), .agg #[.int .i64 kind, .int .u64 a, .int .u64 n, .int .u64 al, .slice A m c]] w (DoPost base p q es w) := by
  subst hk
  obtain ⟨v, vL, vH, hL, hR⟩ := hB
  have hbW : base ≤ w.heap.size := by have := hL.1; have := hL.lt; omega
  have hb0 : Below w.heap.size w ((w.alloc (.cells #[.int .i64 2, .int .u64 a, .int .u64 n, .int .u64 al, .slice A m c] 38)).drew) := ((Below.refl _ w).alloc (Nat.le_refl _) _).drew
  have hL1 : Led ((w.alloc (.cells #[.int .i64 2, .int .u64 a, .int .u64 n, .int .u64 al, .slice A m c] 38)).drew) base p v es := hL.below hb0 (Nat.le_refl _)
  have hR1 : Ref ((w.alloc (.cells #[.int .i64 2, .int .u64 a, .int .u64 n, .int .u64 al, .slice A m c] 38)).drew) base q vL vH es := hR.below hb0 (Nat.le_refl _)
  have hA1 := hA.keep (hb0.mono hbW)
  have hcx : ((w.alloc (.cells #[.int .i64 2, .int .u64 a, .int .u64 n, .int .u64 al, .slice A m c] 38)).drew).cell? ⟨w.heap.size, 4, none⟩ = some (.slice A m c) := by simp
  have hnb : ¬ LS p v w.heap.size := fun h => by have := ls_lt hL h; omega
  have HXW := Lib.hid (heap_alloc_new w (.cells #[.int .i64 2, .int .u64 a, .int .u64 n, .int .u64 al, .slice A m c] 38))
  have HB0 := Lib.hid (hb0.mono hbW)
  have HL1 := Lib.hid hL1
  have HR1 := Lib.hid hR1
  have HA1 := Lib.hid hA1
  have HCX := Lib.hid hcx
  have HNB := Lib.hid hnb
  have HD := Lib.hid (hold_any p base m c A xs v es _ (by omega) hs hL1 (hA1.ads hL1) hm)
  have HS := Lib.hid hs
  have HFT := Lib.hid (fit_turns hs true 7 xs)
  clear hb0 hL1 hR1 hA1 hcx hnb hL hR hA hs
  go_enter Try.func7, Try.ntmps7
  go_wp2
  go_region_held3 (fun w' => w'.cell? ⟨w.heap.size, 4, none⟩ = some (.slice A m c)) (first | exact hcx2 | exact hcx1 | (exact HCX.out) | go_keep)
    (first | (go_at_call 15; refine HD.out.mono ?_; rintro r w1 ⟨rfl, v', hL', hv', hm'⟩; have HL' := Lib.hid hL'; have HM' := Lib.hid hm'; clear hL' hv' hm'; have hcx1 := HM'.out.cell HNB.out HCX.out; have HX1 := Lib.hid ((HM'.out.block w.heap.size (by simp) HNB.out).trans HXW.out)) | (go_at_call 20; refine (reach_hold p q base m c A xs v' vL vH es _ w1 (by omega) HS.out (HR1.out.of_led HL1.out HM'.out) HL'.out (HA1.out.keep (HL1.out.below_mod HM'.out)) hm w.heap.size _ HX1.out).mono ?_; rintro r w2 ⟨rfl, vL2, vH2, hR2, hL2, hb2, hx2⟩; have HR2 := Lib.hid hR2; have HL2 := Lib.hid hL2; have HB2 := Lib.hid hb2; clear hR2 hL2 hb2; have hcx2 : w2.cell? ⟨w.heap.size, 4, none⟩ = some (.slice A m c) := (by simp [World.cell?, hx2])))
  all_goals go_wp2
  all_goals go_ret
  all_goals exact ⟨ret_bool (by simp), _, ⟨_, vL2, vH2, HL2.out, HR2.out⟩, HFT.out.1, by have := HFT.out.2; omega, (HB0.out.trans (HL1.out.below_mod HM'.out)).trans HB2.out⟩

set_option maxRecDepth 100000 in
set_option maxHeartbeats 4000000 in
theorem do_let (p q base m c : Nat) (kind a n al : Int) (A : Option Addr) (xs : List Int) (es : List Ent) (w : World) (hk : kind = 3) (hlen : es.length ≤ 999999) (hs : Fit es) (hB : Both w base p q es)
    (hA : AdsB w base A m xs) (hm : m ≤ 9223372036854775807) :
    Calls Try.prog 7 #[.pointer (some ⟨p, 0, none⟩), .pointer (some ⟨q, 0, none⟩), .agg #[.int .i64 kind, .int .u64 a, .int .u64 n, .int .u64 al, .slice A m c]] w (DoPost base p q es w) := by
  subst hk
  obtain ⟨v, vL, vH, hL, hR⟩ := hB
  have hbW : base ≤ w.heap.size := by have := hL.1; have := hL.lt; omega
  have hb0 : Below w.heap.size w ((w.alloc (.cells #[.int .i64 3, .int .u64 a, .int .u64 n, .int .u64 al, .slice A m c] 38)).drew) := ((Below.refl _ w).alloc (Nat.le_refl _) _).drew
  have hL1 : Led ((w.alloc (.cells #[.int .i64 3, .int .u64 a, .int .u64 n, .int .u64 al, .slice A m c] 38)).drew) base p v es := hL.below hb0 (Nat.le_refl _)
  have hR1 : Ref ((w.alloc (.cells #[.int .i64 3, .int .u64 a, .int .u64 n, .int .u64 al, .slice A m c] 38)).drew) base q vL vH es := hR.below hb0 (Nat.le_refl _)
  have hA1 := hA.keep (hb0.mono hbW)
  have hcx : ((w.alloc (.cells #[.int .i64 3, .int .u64 a, .int .u64 n, .int .u64 al, .slice A m c] 38)).drew).cell? ⟨w.heap.size, 4, none⟩ = some (.slice A m c) := by simp
  have hnb : ¬ LS p v w.heap.size := fun h => by have := ls_lt hL h; omega
  have HXW := Lib.hid (heap_alloc_new w (.cells #[.int .i64 3, .int .u64 a, .int .u64 n, .int .u64 al, .slice A m c] 38))
  have HB0 := Lib.hid (hb0.mono hbW)
  have HL1 := Lib.hid hL1
  have HR1 := Lib.hid hR1
  have HA1 := Lib.hid hA1
  have HCX := Lib.hid hcx
  have HNB := Lib.hid hnb
  have HD := Lib.hid (let_any p base m c A xs v es _ (by omega) hs hL1 (hA1.ads hL1) hm)
  have HS := Lib.hid hs
  have HFT := Lib.hid (fit_turns hs false 8 xs)
  clear hb0 hL1 hR1 hA1 hcx hnb hL hR hA hs
  go_enter Try.func7, Try.ntmps7
  go_wp2
  go_region_held3 (fun w' => w'.cell? ⟨w.heap.size, 4, none⟩ = some (.slice A m c)) (first | exact hcx2 | exact hcx1 | (exact HCX.out) | go_keep)
    (first | (go_at_call 14; refine HD.out.mono ?_; rintro r w1 ⟨rfl, v', hL', hv', hm'⟩; have HL' := Lib.hid hL'; have HM' := Lib.hid hm'; clear hL' hv' hm'; have hcx1 := HM'.out.cell HNB.out HCX.out; have HX1 := Lib.hid ((HM'.out.block w.heap.size (by simp) HNB.out).trans HXW.out)) | (go_at_call 20; refine (reach_let p q base m c A xs v' vL vH es _ w1 (by omega) HS.out (HR1.out.of_led HL1.out HM'.out) HL'.out (HA1.out.keep (HL1.out.below_mod HM'.out)) hm w.heap.size _ HX1.out).mono ?_; rintro r w2 ⟨rfl, vL2, vH2, hR2, hL2, hb2, hx2⟩; have HR2 := Lib.hid hR2; have HL2 := Lib.hid hL2; have HB2 := Lib.hid hb2; clear hR2 hL2 hb2; have hcx2 : w2.cell? ⟨w.heap.size, 4, none⟩ = some (.slice A m c) := (by simp [World.cell?, hx2])))
  all_goals go_wp2
  all_goals go_ret
  all_goals exact ⟨ret_bool (by simp), _, ⟨_, vL2, vH2, HL2.out, HR2.out⟩, HFT.out.1, by have := HFT.out.2; omega, (HB0.out.trans (HL1.out.below_mod HM'.out)).trans HB2.out⟩
end Go.Proofs.Ytgkloacfickeaaa
