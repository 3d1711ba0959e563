/- The arena's search: slices.BinarySearchFunc over regions, and what it leans on. -/
import Derived.Test.YtjcnaefgffnphaaRegs
namespace Go.Proofs.Ytjcnaefgffnphaa
open Go.RowKit

/-- Where an address stands, or would: the first entry that doesn't lie below it. -/
def lb (es : List Reg) (t : Int) : Nat := es.findIdx fun e => decide (t ≤ (e.a : Int))
/-- Is there an entry that begins there? -/
def found (es : List Reg) (t : Int) : Bool := match es[lb es t]? with | some e => (e.a : Int) == t | none => false
def Rising (es : List Reg) : Prop := es.Pairwise fun x y => x.a < y.a

theorem lb_le (es : List Reg) (t : Int) : lb es t ≤ es.length := List.findIdx_le_length
theorem lb_eq {es : List Reg} {t : Int} {p : Nat} (hp : p ≤ es.length) (h1 : ∀ k e, es[k]? = some e → k < p → (e.a : Int) < t) (h2 : ∀ e, es[p]? = some e → t ≤ (e.a : Int)) : lb es t = p := by
  unfold lb
  by_cases hlt : p < es.length
  · rw [List.findIdx_eq hlt]
    refine ⟨by simpa using h2 es[p] (by simp [hlt]), fun j hj => ?_⟩
    have := h1 j es[j] (by simp) hj
    simpa using this
  · have : p = es.length := by omega
    subst this
    rw [List.findIdx_eq_length]
    intro e he
    obtain ⟨k, hk, rfl⟩ := List.getElem_of_mem he
    have := h1 k es[k] (by simp [hk]) hk
    simpa using this
theorem rising_lt {es : List Reg} (h : Rising es) {i j : Nat} {x y : Reg} (hi : es[i]? = some x) (hj : es[j]? = some y) (hij : i < j) : x.a < y.a := by
  obtain ⟨a, rfl⟩ := List.getElem?_eq_some_iff.1 hi
  obtain ⟨b, rfl⟩ := List.getElem?_eq_some_iff.1 hj
  exact List.pairwise_iff_getElem.1 h i j a b hij

theorem isNaN_any (x : Int) (w : World) : Calls Try.prog 47 #[.int .i64 x] w fun e w' => e = .returned (.bool false) ∧ w = w' := by
  go_enter Try.func47, Try.ntmps47
  go_wp2
  go_ret
  simp

def cmpI (x y : Int) : Int := if x < y then -1 else if y < x then 1 else 0
theorem compare_any (x y : Int) (w : World) : Calls Try.prog 40 #[.int .i64 x, .int .i64 y] w fun e w' => e = .returned (.int .i64 (cmpI x y)) ∧ w = w' := by
  go_enter Try.func40, Try.ntmps40
  go_wp2_with (go_at_call 47; refine (isNaN_any _ _).mono ?_; rintro e w' ⟨rfl, rfl⟩)
  · go_ret
    have h : x < y := by assumption
    exact ⟨ret_int (by unfold cmpI; rw [if_pos h]), rfl⟩
  · go_ret
    have h : y ≤ x := by assumption
    have h2 : y < x := by assumption
    exact ⟨ret_int (by unfold cmpI; rw [if_neg (by omega), if_pos h2]), rfl⟩
  · go_ret
    have h : y ≤ x := by assumption
    have h2 : x ≤ y := by assumption
    exact ⟨ret_int (by unfold cmpI; rw [if_neg (by omega), if_neg (by omega)]), rfl⟩

theorem cmp_any (a n : Int) (t : Int) (w : World) :
    Calls Try.prog 39 #[.agg #[.int .i64 a, .int .i64 n], .int .i64 t] w fun r w' => r = .returned (.int .i64 (cmpI a t)) ∧ Below w.heap.size w w' := by
  go_enter Try.func39, Try.ntmps39
  go_wp2_with (go_at_call 40; refine (compare_any _ _ _).mono ?_; rintro e w' ⟨rfl, rfl⟩)
  go_ret
  exact ⟨rfl, (Below.refl _ _).alloc (Nat.le_refl _) _⟩

set_option maxHeartbeats 400000 in
theorem bs_any (es : List Reg) (A : Option Addr) (c base : Nat) (t : Int) (w : World) (hlen : es.length ≤ 1000000) (hsort : Rising es) (hown : OwnR w base (.slice A es.length c) es) :
    Calls Try.prog 38 #[.slice A es.length c, .int .i64 t, .func (.func 39) #[] #[]] w fun r w' =>
      r = .returned (.tuple #[.int .i64 (lb es t), .bool (found es t)]) ∧ Below w.heap.size w w' := by
  go_enter Try.func38, Try.ntmps38
  go_wp2
  go_loopw [9, 10] (fun i j wr => ∃ p q : Nat, i = .int .i64 p ∧ j = .int .i64 q ∧ p ≤ q ∧ q ≤ es.length ∧ Below w.heap.size w wr ∧
      (∀ k e, es[k]? = some e → k < p → (e.a : Int) < t) ∧ (∀ e, es[q]? = some e → t ≤ (e.a : Int))) (fun i j _ => (intOf j - intOf i).toNat)
  case atStart => exact ⟨0, es.length, rfl, rfl, by omega, by omega, Below.refl _ _, by omega, by simp⟩
  case round =>
    obtain ⟨p, q, rfl, rfl, hpq, hq, hB, hlo, hhi⟩ := hrel
    have HLO := Lib.hid hlo
    have HHI := Lib.hid hhi
    have HS := Lib.hid hsort
    clear hlo hhi hsort
    by_cases hlt : p < q
    · have hm : (p + q) / 2 < es.length := by omega
      obtain ⟨e, he⟩ : ∃ e, es[(p+q)/2]? = some e := ⟨es[(p+q)/2], by simp [hm]⟩
      obtain ⟨g, rfl, _, hg, h0, h1, _⟩ := hown.at he
      rw [← hB.cell (p := ⟨g, _, none⟩) hg] at h0 h1
      have HE := Lib.hid he
      clear he hown
      have hmN : ((p : Int) + q) / 2 = (((p + q) / 2 : Nat) : Int) := by omega
      have HM := Lib.hid hmN
      clear hmN
      by_cases hc : (e.a : Int) < t
      · have hneg : cmpI (e.a : Int) t < 0 := by unfold cmpI; rw [if_pos hc]; omega
        go_wp2_with (go_at_call 39; refine (cmp_any _ _ _ _).mono ?_; rintro r w1 ⟨rfl, hb1⟩)
        go_roundw
        case rel =>
          refine ⟨(p + q) / 2 + 1, q, by rw [HM.out]; go_num, rfl, by omega, hq, hB.trans (hb1.mono hB.size), fun k x hx hk => ?_, HHI.out⟩
          by_cases hkm : k = (p + q) / 2
          · subst hkm; have := HE.out; rw [hx] at this; cases this; exact hc
          · have := rising_lt HS.out hx HE.out (by omega); omega
        case measure => simp [intOf]; omega
      · have hneg : 0 ≤ cmpI (e.a : Int) t := by unfold cmpI; rw [if_neg hc]; split <;> omega
        go_wp2_with (go_at_call 39; refine (cmp_any _ _ _ _).mono ?_; rintro r w1 ⟨rfl, hb1⟩)
        go_roundw
        case rel =>
          refine ⟨p, (p + q) / 2, rfl, by rw [HM.out], by omega, by omega, hB.trans (hb1.mono hB.size), HLO.out, fun x hx => ?_⟩
          have := HE.out; rw [hx] at this; cases this; omega
        case measure => simp [intOf]; omega
    · obtain rfl : p = q := by omega
      have hlb : lb es t = p := lb_eq hq HLO.out HHI.out
      have HLB := Lib.hid hlb
      clear hlb
      by_cases hm : p < es.length
      · obtain ⟨e, he⟩ : ∃ e, es[p]? = some e := ⟨es[p], by simp [hm]⟩
        obtain ⟨g, rfl, _, hg, h0, h1, _⟩ := hown.at he
        rw [← hB.cell (p := ⟨g, _, none⟩) hg] at h0 h1
        have HE := Lib.hid he
        clear he hown
        have hmi : (p : Int) < es.length := by omega
        go_wp2_with (go_at_call 39; refine (cmp_any _ _ _ _).mono ?_; rintro r w1 ⟨rfl, hb1⟩)
        go_ret2
        refine ⟨ret_ib (by rw [HLB.out]) ?_, hB.trans (hb1.mono hB.size)⟩
        unfold found
        rw [HLB.out, HE.out]
        unfold cmpI
        have := HHI.out e HE.out
        rw [if_neg (by omega)]
        by_cases ht : t < (e.a : Int)
        · rw [if_pos ht]; simp; omega
        · rw [if_neg ht]; simp; omega
      · have hmi : decide (p < es.length) = false := by simpa using hm
        go_wp2_with fail
        go_ret2
        refine ⟨ret_ib (by rw [HLB.out]) ?_, hB⟩
        unfold found
        rw [HLB.out, List.getElem?_eq_none (by omega)]
end Go.Proofs.Ytjcnaefgffnphaa
