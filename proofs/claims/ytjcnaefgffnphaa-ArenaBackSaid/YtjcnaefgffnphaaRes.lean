/- The arena's Regions and New, Refuse. -/
import Derived.Test.YtjcnaefgffnphaaAr
namespace Go.Proofs.Ytjcnaefgffnphaa
open Go.RowKit
set_option linter.unusedVariables false

theorem own_empty (w : World) (e : TypeId) (size : Nat) : (w.alloc (.cells #[] e)).ownsRow w.heap.size e size (.slice (some ⟨w.heap.size, 0, none⟩) 0 0) 0 [] :=
  ⟨by simp, .inr ⟨w.heap.size, 0, #[], rfl, Nat.le_refl _, heap_alloc_new w _, Nat.le_refl _, by unfold maxLen; omega, by simp, by simp⟩⟩

set_option maxHeartbeats 400000 in
theorem clone_any (base : Nat) (v : Value) (es : List Reg) (w : World) (hlen : es.length ≤ 1000000) (hown : OwnR w base v es) :
    Calls Try.prog 34 #[v] w fun r w' => ∃ u, r = .returned u ∧ OwnR w' w.heap.size u es ∧ Below w.heap.size w w' := by
  obtain ⟨i0, hi0, hz0, hz1, hz2⟩ := info_parts info39
  obtain ⟨A, c, rfl, hnc, hcm⟩ := hown.form
  cases A with
  | none =>
    have h0 : es = [] := by
      rcases hown.2 with ⟨hv, h0⟩ | ⟨g, cap, cur, hv, _⟩
      · exact List.eq_nil_of_length_eq_zero h0
      · cases hv
    have hc0 : c = 0 := by
      rcases hown.2 with ⟨hv, h0⟩ | ⟨g, cap, cur, hv, _⟩
      · injection hv with h1 h2 h3
      · cases hv
    subst h0
    subst hc0
    clear hown
    simp only [List.length_nil]
    have hnil := fun (w : World) => Lib.run_eql_slice_nil (P := Try.prog) w 36 39 none 0 0 0 0 Try.underlying36
    go_enter Try.func34, Try.ntmps34
    go_wp2
    go_ret
    exact ⟨_, rfl, World.ownsRow_nil w w.heap.size 39 2, Below.refl _ _⟩
  | some a =>
    have HR := Lib.hid (Reads.of_own hown)
    have HE := Lib.hid (own_empty w 39 2)
    have hz : w.heap.size ≤ (w.alloc (.cells #[] 39)).heap.size := by simp
    have hnil := fun (w : World) => Lib.run_eql_slice_nil (P := Try.prog) w 36 39 (some a) es.length c 0 0 Try.underlying36
    clear hown
    go_enter Try.func34, Try.ntmps34
    go_wp2_with (at_builtin; refine wpList_append_any _ rfl (.tmp 5) (.tmp 6) _ rfl w.heap.size 39 i0 _ 2 16 Try.underlying36 hi0 hz0 hz1 hz2 rfl (by decide) (.slice (some ⟨w.heap.size, 0, none⟩) 0 0) 0 [] rfl HE.out w.heap.size (some a) es.length c (regs es) rfl (HR.out.alloc (Nat.le_refl _) _) (oneCell_regs _) (by unfold maxLen; omega) (by omega) (by simp) ?_; intro v' w1 ho hg _; obtain ⟨A1, c1, rfl, _, _⟩ := own_form ho; have HO := Lib.hid ho; have HG := Lib.hid hg; clear ho hg)
    go_ret
    refine ⟨_, rfl, by simpa [OwnR] using HO.out, ((Below.refl _ w).alloc (Nat.le_refl _) _).grown HG.out (by simp) (fun k hk => by cases hk; exact Nat.le_refl _)⟩

theorem regions_any (p pm g : Nat) (vR vT : Value) (s : St) (w : World) (h : Ar0 w p pm g vR vT s) :
    Calls Try.prog 16 #[.pointer (some ⟨p, 0, none⟩)] w fun r w' => ∃ u, r = .returned u ∧ OwnR w' w.heap.size u s.L ∧ Below w.heap.size w w' := by
  have hc := h.c3
  have HC := Lib.hid (clone_any 0 vR s.L w (by have := h.ok.len; omega) h.regs)
  obtain ⟨A, c, rfl, _, _⟩ := h.regs.form
  clear h
  go_enter Try.func16, Try.ntmps16
  go_wp2_with (go_at_call 34; (with_reducible refine HC.out.mono ?_); rintro r w1 ⟨u, rfl, ho, hb1⟩; obtain ⟨A1, c1, rfl, _, _⟩ := ho.form; have HO := Lib.hid ho; clear ho)
  go_ret
  exact ⟨_, rfl, HO.out, hb1⟩

def stNew (n k : Nat) : St := ⟨n, k, [], [], 0⟩
theorem stNew_ok {n k : Nat} (h1 : 1 ≤ n) (h2 : n ≤ 64) (h3 : k ≤ n) : (stNew n k).Ok := ⟨h1, h2, h3, ⟨List.Pairwise.nil, fun r hr => by cases hr⟩, by simp [stNew]⟩
theorem ar_new (w w1 : World) (n k : Nat) (h1 : 1 ≤ n) (h2 : n ≤ 64) (h3 : k ≤ n) (hM : Mk w1 (w.heap.size + 1) w.heap.size n (fun _ => false)) (hz : w1.heap.size = w.heap.size + 2) :
    Ar0 (w1.alloc (.cells #[.pointer (some ⟨w.heap.size + 1, 0, none⟩), .int .i64 n, .int .i64 k, .slice none 0 0, .slice none 0 0, .int .i64 0] 62)) (w.heap.size + 2) (w.heap.size + 1) w.heap.size (.slice none 0 0) (.slice none 0 0) (stNew n k) := by
  refine ⟨?_, ?_, World.ownsRow_nil _ _ _ _, told_nil _ _, (by intro h; cases h), stNew_ok h1 h2 h3, by simp [stNew]⟩
  · have h := heap_alloc_new w1 (.cells #[.pointer (some ⟨w.heap.size + 1, 0, none⟩), .int .i64 n, .int .i64 k, .slice none 0 0, .slice none 0 0, .int .i64 0] 62)
    rw [hz] at h; exact h
  · exact (hM.below ((Below.refl _ w1).alloc (Nat.le_refl _) _) hM.plt hM.glt)

theorem new_any (n k : Nat) (w : World) (h1 : 1 ≤ n) (h2 : n ≤ 64) (h3 : k ≤ n) :
    Calls Try.prog 10 #[.int .i64 n, .int .i64 k] w fun r w' => r = .returned (.tuple #[.pointer (some ⟨w.heap.size + 2, 0, none⟩), .int .i64 0]) ∧ Below w.heap.size w w' ∧
      Ar0 w' (w.heap.size + 2) (w.heap.size + 1) w.heap.size (.slice none 0 0) (.slice none 0 0) (stNew n k) := by
  have h1' : (1 : Int) ≤ n := by omega
  have h2' : (n : Int) ≤ 64 := by omega
  have h3' : (k : Int) ≤ n := by omega
  have h4' : (0 : Int) ≤ k := by omega
  have HM := Lib.hid (markNew_any n w h1 (by omega))
  go_enter Try.func10, Try.ntmps10
  go_wp2_with (go_at_call 26; (with_reducible refine HM.out.mono ?_); rintro r w1 ⟨rfl, hb, hm, hz⟩; have HMK := Lib.hid hm; have HZ := Lib.hid hz; clear hm hz)
  go_ret2
  have hz := HZ.out
  refine ⟨?_, hb.alloc (by omega) _, ar_new w w1 n k h1 h2 h3 HMK.out HZ.out⟩
  exact congrArg (fun x => Ending.returned (.tuple #[.pointer (some ⟨x, 0, none⟩), .int .i64 0])) HZ.out
theorem new_no (n k : Int) (w : World) (h : n < 1 ∨ 64 < n ∨ k < 0 ∨ n < k) :
    Calls Try.prog 10 #[.int .i64 n, .int .i64 k] w fun r w' => r = .returned (.tuple #[.pointer none, .int .i64 2]) ∧ w = w' := by
  have hd : (decide (n < 1) || decide (64 < n) || decide (k < 0) || decide (n < k)) = true := by
    rcases h with h | h | h | h <;> simp [h]
  go_enter Try.func10, Try.ntmps10
  go_wp2_with fail
  all_goals
    go_ret2
    exact ⟨rfl, rfl⟩
end Go.Proofs.Ytjcnaefgffnphaa
