/- slices.Delete over entries. -/
import Derived.Test.YtjcnaefgffnphaaFind
import Derived.KernelRfl
namespace Go.Proofs.Ytjcnaefgffnphaa
open Go.RowKit
set_option linter.unusedVariables false

theorem info39 : (Try.prog.info? 39).map (fun i => (i.zero, i.size, i.bytes)) = some (some (.agg #[.int .i64 0, .int .i64 0]), 2, 16) := by kernel_rfl
theorem zero39 (w : World) : (zeroValue 39).run Try.prog w = .ok (.agg #[.int .i64 0, .int .i64 0]) w := by kernel_rfl

set_option maxHeartbeats 4000000 in
theorem delete_full (es : List Reg) (g m c base i : Nat) (w : World) (hn : es.length = m + 1) (hlen : m + 1 ≤ 1000000) (hown : w.ownsRow base 39 2 (.slice (some ⟨g, 0, none⟩) (m + 1) c) (m + 1) (regs es)) (hi : i < m + 1) (hcm : c ≤ 9223372036854775807) (hmc1 : m + 1 ≤ c) (hci : c = i + 1) :
    Calls Try.prog 32 #[.slice (some ⟨g, 0, none⟩) (m + 1) c, .int .i64 i, .int .i64 (i + 1)] w fun r w' => r = .returned (.slice (some ⟨g, 0, none⟩) m c) ∧ OwnR w' base (.slice (some ⟨g, 0, none⟩) m c) (es.eraseIdx i) ∧ w.grownBy w' (some g) := by
  obtain ⟨i0, hi0, hz0, hz1, hz2⟩ := info_parts info39
  have hlN : (regs (es.drop (i + 1))).length = (m - i) * 2 := by rw [length_regs, List.length_drop, hn]; omega
  have hpd : w.drew.ownsRow base 39 2 (.slice (some ⟨g, 0, none⟩) i c) i (regs (es.take i)) := take_regs es i ▸ own_prefix hown (k := i) (by omega)
  have HPd := Lib.hid hpd
  obtain ⟨_, hgg, _, _, hc, _⟩ := own_at hown (by omega)
  cases hgg
  clear hpd hown
  have hnews : ∀ (ad : Addr), (ad = ⟨g, (i + 1) * 2, none⟩ ∨ m - i = 0) → ∀ j u, (regs (es.drop (i + 1)))[j]? = some u → w.drew.cell? (ad.add j) = some u := by
    intro ad had j u hu
    have hj : j < (m - i) * 2 := by have := (List.getElem?_eq_some_iff.1 hu).1; omega
    rcases had with rfl | had
    · rw [← drop_regs, List.getElem?_drop] at hu
      have ha : (⟨g, (i + 1) * 2, none⟩ : Addr).add j = ⟨g, (i + 1) * 2 + j, none⟩ := by unfold Addr.add; split <;> simp_all
      rw [ha, ← hu]
      exact hc _ (by omega)
    · rw [had] at hj; omega
  have HN := Lib.hid hnews
  clear hnews hc
  have herase : regs (es.take i) ++ regs (es.drop (i + 1)) = regs (es.eraseIdx i) := by rw [← regs_append, List.eraseIdx_eq_take_drop_succ]
  have hel : (es.eraseIdx i).length = m := by rw [List.length_eraseIdx_of_lt (by omega)]; omega
  have HE := Lib.hid herase
  have HEL := Lib.hid hel
  clear herase hel hn
  have hiI : (i : Int) < (m : Int) + 1 := by omega
  have hne : ((i : Int) == (i : Int) + 1) = false := by simp; omega
  have hic : i ≤ c := by omega
  have hi0' : (0 : Int) ≤ (i : Int) + 1 := by omega
  have hi1' : (i : Int) + 1 ≤ (m : Int) + 1 := by omega
  have hic1 : i + 1 ≤ m + 1 := by omega
  have hroom : i + (m - i) ≤ c := by omega
  have hmc : ¬ c = m := by omega
  have fin : ∀ (w1 w2 : World), w1.ownsRow base 39 2 (.slice (some ⟨g, 0, none⟩) m c) m (regs (es.eraseIdx i)) → w.drew.grownBy w1 (some g) → w2.ownsRow base 39 2 (.slice (some ⟨g, 0, none⟩) m c) m (regs (es.eraseIdx i)) → w1.grownBy w2 (some g) →
      OwnR w2 base (.slice (some ⟨g, 0, none⟩) m c) (es.eraseIdx i) ∧ w.grownBy w2 (some g) := by
    intro w1 w2 _ hg1 h2 hg2
    refine ⟨by unfold OwnR; rw [HEL.out]; exact h2, ?_⟩
    exact (((Mod.refl (fun k => k = g) w).drew.grown hg1 (fun k hk _ => by simpa using hk.symm)).grown hg2 (fun k hk _ => by simpa using hk.symm)).grownBy (fun k hk => by rw [hk])
  have FIN := Lib.hid fin
  clear fin
  obtain rfl : i = m := by omega
  subst hci
  have hii : (i : Int) ≤ (i : Int) + 1 := by omega
  go_enter Try.func32, Try.ntmps32
  go_wp2_with fail
  go_region_law (refine step_append_fits rfl (.tmp 22) (.tmp 25) _ rfl base 39 i0 2 Try.underlying36 hi0 hz1 g i _ _ rfl HPd.out _ 0 _ (regs (es.drop (i + 1))) rfl (by simpa using hlN) (HN.out _ (.inr (by omega))) (oneCell_regs _) (by omega) (fun w1 hown1 hg1 => ?_))
  simp only [Nat.add_zero] at hown1 ⊢
  rw [HE.out] at hown1
  obtain ⟨w2, hcl, hown2, hg2⟩ := run_clear_tail (P := Try.prog) w1 36 39 _ 2 Try.underlying36 zero39 (by simp [Value.cells]) (by simp [Value.cells, Value.oneCell']) (by omega) base g i (i + 1) 1 1 _ hown1 (by omega) (by omega)
  have HF := Lib.hid (FIN.out w1 w2 hown1 hg1 hown2 hg2)
  clear hown2 hown1 hg1 hg2
  go_wp2
  go_ret
  exact ⟨rfl, HF.out⟩

set_option maxHeartbeats 4000000 in
theorem delete_room (es : List Reg) (g m c base i : Nat) (w : World) (hn : es.length = m + 1) (hlen : m + 1 ≤ 1000000) (hown : w.ownsRow base 39 2 (.slice (some ⟨g, 0, none⟩) (m + 1) c) (m + 1) (regs es)) (hi : i < m + 1) (hcm : c ≤ 9223372036854775807) (hmc1 : m + 1 ≤ c) (hci : ¬ c = i + 1) :
    Calls Try.prog 32 #[.slice (some ⟨g, 0, none⟩) (m + 1) c, .int .i64 i, .int .i64 (i + 1)] w fun r w' => r = .returned (.slice (some ⟨g, 0, none⟩) m c) ∧ OwnR w' base (.slice (some ⟨g, 0, none⟩) m c) (es.eraseIdx i) ∧ w.grownBy w' (some g) := by
  obtain ⟨i0, hi0, hz0, hz1, hz2⟩ := info_parts info39
  have hlN : (regs (es.drop (i + 1))).length = (m - i) * 2 := by rw [length_regs, List.length_drop, hn]; omega
  have hpd : w.drew.ownsRow base 39 2 (.slice (some ⟨g, 0, none⟩) i c) i (regs (es.take i)) := take_regs es i ▸ own_prefix hown (k := i) (by omega)
  have HPd := Lib.hid hpd
  obtain ⟨_, hgg, _, _, hc, _⟩ := own_at hown (by omega)
  cases hgg
  clear hpd hown
  have hnews : ∀ (ad : Addr), (ad = ⟨g, (i + 1) * 2, none⟩ ∨ m - i = 0) → ∀ j u, (regs (es.drop (i + 1)))[j]? = some u → w.drew.cell? (ad.add j) = some u := by
    intro ad had j u hu
    have hj : j < (m - i) * 2 := by have := (List.getElem?_eq_some_iff.1 hu).1; omega
    rcases had with rfl | had
    · rw [← drop_regs, List.getElem?_drop] at hu
      have ha : (⟨g, (i + 1) * 2, none⟩ : Addr).add j = ⟨g, (i + 1) * 2 + j, none⟩ := by unfold Addr.add; split <;> simp_all
      rw [ha, ← hu]
      exact hc _ (by omega)
    · rw [had] at hj; omega
  have HN := Lib.hid hnews
  clear hnews hc
  have herase : regs (es.take i) ++ regs (es.drop (i + 1)) = regs (es.eraseIdx i) := by rw [← regs_append, List.eraseIdx_eq_take_drop_succ]
  have hel : (es.eraseIdx i).length = m := by rw [List.length_eraseIdx_of_lt (by omega)]; omega
  have HE := Lib.hid herase
  have HEL := Lib.hid hel
  clear herase hel hn
  have hiI : (i : Int) < (m : Int) + 1 := by omega
  have hne : ((i : Int) == (i : Int) + 1) = false := by simp; omega
  have hic : i ≤ c := by omega
  have hi0' : (0 : Int) ≤ (i : Int) + 1 := by omega
  have hi1' : (i : Int) + 1 ≤ (m : Int) + 1 := by omega
  have hic1 : i + 1 ≤ m + 1 := by omega
  have hroom : i + (m - i) ≤ c := by omega
  have hmc : ¬ c = m := by omega
  have fin : ∀ (w1 w2 : World), w1.ownsRow base 39 2 (.slice (some ⟨g, 0, none⟩) m c) m (regs (es.eraseIdx i)) → w.drew.grownBy w1 (some g) → w2.ownsRow base 39 2 (.slice (some ⟨g, 0, none⟩) m c) m (regs (es.eraseIdx i)) → w1.grownBy w2 (some g) →
      OwnR w2 base (.slice (some ⟨g, 0, none⟩) m c) (es.eraseIdx i) ∧ w.grownBy w2 (some g) := by
    intro w1 w2 _ hg1 h2 hg2
    refine ⟨by unfold OwnR; rw [HEL.out]; exact h2, ?_⟩
    exact (((Mod.refl (fun k => k = g) w).drew.grown hg1 (fun k hk _ => by simpa using hk.symm)).grown hg2 (fun k hk _ => by simpa using hk.symm)).grownBy (fun k hk => by rw [hk])
  have FIN := Lib.hid fin
  clear fin
  go_enter Try.func32, Try.ntmps32
  go_wp2_with fail
  go_region_law (refine step_append_fits rfl (.tmp 22) (.tmp 25) _ rfl base 39 i0 2 Try.underlying36 hi0 hz1 g i c _ rfl HPd.out ⟨g, (i + 1) * 2, none⟩ (m - i) _ (regs (es.drop (i + 1))) rfl hlN (HN.out _ (.inl rfl)) (oneCell_regs _) hroom (fun w1 hown1 hg1 => ?_))
  rw [show i + (m - i) = m from by omega] at hown1 ⊢
  rw [HE.out] at hown1
  obtain ⟨w2, hcl, hown2, hg2⟩ := run_clear_tail (P := Try.prog) w1 36 39 _ 2 Try.underlying36 zero39 (by simp [Value.cells]) (by simp [Value.cells, Value.oneCell']) (by omega) base g m c 1 (c - m) _ hown1 (by omega) (by omega)
  have HF := Lib.hid (FIN.out w1 w2 hown1 hg1 hown2 hg2)
  clear hown2 hown1 hg1 hg2
  go_wp2
  go_ret
  exact ⟨rfl, HF.out⟩


theorem delete_any (es : List Reg) (A : Option Addr) (c base i : Nat) (w : World) (hlen : es.length ≤ 1000000) (hown : OwnR w base (.slice A es.length c) es) (hi : i < es.length) :
    Calls Try.prog 32 #[.slice A es.length c, .int .i64 i, .int .i64 (i + 1)] w fun r w' => ∃ v', r = .returned v' ∧ OwnR w' base v' (es.eraseIdx i) ∧
      w.grownBy w' (Value.slice A es.length c).ownBlock ∧ v'.ownBlock = (Value.slice A es.length c).ownBlock := by
  obtain ⟨g, rfl, _⟩ := own_at hown (by omega)
  obtain ⟨A, c', hv, hnc, hcm⟩ := own_form hown
  simp only [Value.slice.injEq] at hv
  obtain ⟨rfl, _, rfl⟩ := hv
  unfold maxLen at hcm
  obtain ⟨m, hm⟩ : ∃ m, es.length = m + 1 := ⟨es.length - 1, by omega⟩
  unfold OwnR at hown
  rw [hm] at hown hnc hlen hi ⊢
  by_cases hci : c = i + 1
  · exact (delete_full es g m c base i w hm hlen hown hi (by omega) hnc hci).mono fun r w' ⟨h1, h2, h3⟩ => ⟨_, h1, h2, h3, rfl⟩
  · exact (delete_room es g m c base i w hm hlen hown hi (by omega) hnc hci).mono fun r w' ⟨h1, h2, h3⟩ => ⟨_, h1, h2, h3, rfl⟩
end Go.Proofs.Ytjcnaefgffnphaa
