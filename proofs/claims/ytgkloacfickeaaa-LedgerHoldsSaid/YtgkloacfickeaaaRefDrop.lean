/- The reference's Drop. -/
import Derived.Test.YtgkloacfickeaaaRefRow
import Derived.Deep.RegionLaw
import Derived.Deep.DrawnRows
namespace Go.Proofs.Ytgkloacfickeaaa
open Go.RowKit
set_option linter.unusedVariables false
attribute [local go_sem ↓] Go.wp_at_zero Go.wp_at_succ

set_option maxRecDepth 100000 in
set_option maxHeartbeats 4000000 in
theorem rdrop_hit (q base i c ch : Nat) (A AH : Option Addr) (es : List Ent) (t : Int) (w : World) (hlen : es.length ≤ 1000000) (hs : Fit es) (hR : Ref w base q (.slice A es.length c) (.slice AH es.length ch) es) (hi : i < es.length) (hI : atI es t = (i : Int)) :
    Calls Try.prog 21 #[.pointer (some ⟨q, 0, none⟩), .int .u64 t] w (RefPost (0, es.eraseIdx i) q base (.slice A es.length c) (.slice AH es.length ch) w) := by
  obtain ⟨i35, hi35, hz35, hs35, hb35⟩ := info_parts info35
  obtain ⟨i4, hi4', hz4, hs4, hb4⟩ := info_parts info4
  have HR := Lib.hid hR
  have HS := Lib.hid hs
  have HI := Lib.hid hI
  have hq := hR.lt
  obtain ⟨hnc, hcm⟩ := own_cap hR.2.2.1
  obtain ⟨hnch, hcmh⟩ := own_cap hR.2.2.2
  clear hR hs hI
  unfold maxLen at hcm hcmh
  have hi0 : (0 : Int) ≤ (i : Int) := Int.natCast_nonneg _
  have hwr : IntKind.i64.wrap ((i : Int) + 1) = (i : Int) + 1 := IntWalk.i64_in _ (by omega)
  have hi1 : (0 : Int) ≤ (i : Int) + 1 := by omega
  have hi2 : (i : Int) + 1 ≤ es.length := by omega
  have hi3 : (i : Int) ≤ es.length := by omega
  have hi4 : ((i : Int) + 1).toNat = i + 1 := by omega
  have hi5 : (i : Int) ≤ c := by omega
  have hi6 : (i : Int) ≤ ch := by omega
  have hm63 : 0 + i ≤ maxLen := by unfold maxLen; omega
  have hm64 : i + (es.length - (i + 1)) ≤ maxLen := by unfold maxLen; omega
  have h03 : 0 < 3 := by omega
  have h01 : 0 < 1 := by omega
  have hbt1 : (0 + i) * 24 ≤ 140737488355328 := by omega
  have hbt2 : (i + (es.length - (i + 1))) * 24 ≤ 140737488355328 := by omega
  have hbt3 : (0 + i) * 1 ≤ 140737488355328 := by omega
  have hbt4 : (i + (es.length - (i + 1))) * 1 ≤ 140737488355328 := by omega
  have HOT : Hid (∀ u ∈ (blks es).take (i * 3), u.oneCell' = true) := Lib.hid (fun u hu => oneCell_blks es u (List.mem_of_mem_take hu))
  have HOC : Hid (∀ u ∈ (blks es).drop ((i + 1) * 3), u.oneCell' = true) := Lib.hid (fun u hu => oneCell_blks es u (List.mem_of_mem_drop hu))
  have HPT : Hid (∀ u ∈ (helds es).take i, u.oneCell' = true) := Lib.hid (fun u hu => oneCell_helds es u (List.mem_of_mem_take hu))
  have HPC : Hid (∀ u ∈ (helds es).drop (i + 1), u.oneCell' = true) := Lib.hid (fun u hu => oneCell_helds es u (List.mem_of_mem_drop hu))
  go_enter Try.func21, Try.ntmps21
  go_wp2_with (go_at_call 37; refine (rat_any q base _ _ es t w hlen HS.out.rising HR.out).mono ?_; rintro r w1 ⟨rfl, hb1⟩; rw [HI.out]; have HR1 := Lib.hid (HR.out.below hb1 (Nat.le_refl _)); have hz1 := hb1.size; have hq0 := HR1.out.cell0; have hqf := HR1.out.frozen 0)
  have hb0 : base ≤ w1.heap.size := by have := HR.out.1; omega
  have hnq : (Value.slice (some ⟨w1.heap.size, 0, none⟩) 0 0).ownBlock ≠ some q := by simp [Value.ownBlock]; omega
  have HF := Lib.hid (own_fresh (w := w1) (e := 35) (size := 3) hb0)
  have HO1 := Lib.hid (own_prefix_any HR1.out.2.2.1 (k := i) (by omega))
  have hq1 : q < w1.heap.size := by omega
  have hbs1 : base ≤ ((w1.alloc (.cells #[] 35)).drew).heap.size := by simp; omega
  have hfa : (w1.alloc (.cells #[] 35)).drew.frozen? ⟨q, 0, none⟩ = false := (keep_alloc hq1 _).2.trans hqf
  have hca : (w1.alloc (.cells #[] 35)).drew.cell? ⟨q, 0, none⟩ = some (.slice A es.length c) := (keep_alloc hq1 _).1.trans hq0
  have hqa : q < (w1.alloc (.cells #[] 35)).drew.heap.size := by simp; omega
  have HO2 := Lib.hid (Reads.cut (Reads.of_own HR1.out.2.2.1) (k := i + 1) (cap := c) (by omega) hnc)
  have HP1 : Hid (RefP w1 base q (.slice A es.length c) (.slice AH es.length ch) es.length (blks es) es.length (helds es)) := HR1
  refine Code.wp_mono (Q := AtEnd fun a' w' => (∃ v', RefP w' base q v' (.slice AH es.length ch) (i + (es.length - (i + 1))) ((blks es).take (i * 3) ++ (blks es).drop ((i + 1) * 3)) es.length (helds es) ∧ Mod (fun k => k = q) w1 w') ∧
    ∃ u6 u7 u8 u9 u10 u11 u12 u13 u14 u15 u16 u17 u18 u19 u20 u21 u22 u23 u24 u25 u26 u27 u28 u29, a' = { tmps := #[.pointer (some ⟨q, 0, none⟩), .int .u64 t, undef, undef, .int .i64 0, .int .i64 i, u6, u7, u8, u9, u10, u11, u12, u13, u14, u15, u16, u17, u18, u19, u20, u21, u22, u23, u24, u25, u26, u27, u28, u29, undef, undef, undef, undef, undef, undef, undef, undef, undef, undef, undef, undef, undef, undef, undef, undef, undef, undef, undef], defers := [] }) ?_ ?_
  · refine AtEnd.imp ?_
    rintro a' w4 ⟨⟨v4, hP4, hm4⟩, u6, u7, u8, u9, u10, u11, u12, u13, u14, u15, u16, u17, u18, u19, u20, u21, u22, u23, u24, u25, u26, u27, u28, u29, rfl⟩
    dsimp only [Exit.then]
    have hzw4 := hm4.size
    have HM4 := Lib.hid hm4
    have HP4 := Lib.hid hP4
    clear hP4 hm4 hq0 hqf hfa hca hqa hbs1 hnq HF HO1 HO2 HP1
    have hcl := HP4.out.2.1
    have hq0 : w4.cell? ⟨q, 1, none⟩ = some (.slice AH es.length ch) := by simp [World.cell?, hcl]
    have hqf : w4.frozen? ⟨q, 1, none⟩ = false := by simp [World.frozen?, hcl]
    clear hcl
    have hbw4 : base ≤ w4.heap.size := by omega
    have hnq : (Value.slice (some ⟨w4.heap.size, 0, none⟩) 0 0).ownBlock ≠ some q := by simp [Value.ownBlock]; omega
    have HF := Lib.hid (own_fresh (w := w4) (e := 4) (size := 1) hbw4)
    have HO1 : Hid (Reads w4 w4.heap.size 1 AH i ((helds es).take i)) := Lib.hid (by have := own_prefix_any HP4.out.2.2.2 (k := i) (by omega); rwa [Nat.mul_one] at this)
    have hq4 : q < w4.heap.size := by omega
    have hbs1 : base ≤ ((w4.alloc (.cells #[] 4)).drew).heap.size := by simp; omega
    have hfa : (w4.alloc (.cells #[] 4)).drew.frozen? ⟨q, 1, none⟩ = false := (keep_alloc hq4 _).2.trans hqf
    have hca : (w4.alloc (.cells #[] 4)).drew.cell? ⟨q, 1, none⟩ = some (.slice AH es.length ch) := (keep_alloc hq4 _).1.trans hq0
    have hqa : q < (w4.alloc (.cells #[] 4)).drew.heap.size := by simp; omega
    have HO2 : Hid (Reads w4 w4.heap.size 1 (if ch = i + 1 then AH else AH.map (·.add (i + 1))) (es.length - (i + 1)) ((helds es).drop (i + 1))) := Lib.hid (by have := Reads.cut (Reads.of_own HP4.out.2.2.2) (k := i + 1) (cap := ch) (by omega) hnch; rwa [Nat.mul_one] at this)
    go_wp2
    refine Code.wp_mono (Q := AtEnd fun a' w' => (∃ v', RefP w' base q v4 v' (i + (es.length - (i + 1))) ((blks es).take (i * 3) ++ (blks es).drop ((i + 1) * 3)) (i + (es.length - (i + 1))) ((helds es).take i ++ (helds es).drop (i + 1)) ∧ Mod (fun k => k = q) w4 w') ∧
      ∃ u6 u7 u8 u9 u10 u11 u12 u13 u14 u15 u16 u17 u18 u19 u20 u21 u22 u23 u24 u25 u26 u27 u28 u29 u30 u31 u32 u33 u34 u35 u36 u37 u38 u39 u40 u41 u42 u43 u44 u45 u46 u47 u48, a' = { tmps := #[.pointer (some ⟨q, 0, none⟩), .int .u64 t, undef, undef, .int .i64 0, .int .i64 i, u6, u7, u8, u9, u10, u11, u12, u13, u14, u15, u16, u17, u18, u19, u20, u21, u22, u23, u24, u25, u26, u27, u28, u29, u30, u31, u32, u33, u34, u35, u36, u37, u38, u39, u40, u41, u42, u43, u44, u45, u46, u47, u48], defers := [] }) ?_ ?_
    · refine AtEnd.imp ?_
      rintro a' w7 ⟨⟨v7, hP7, hm7⟩, u6, u7, u8, u9, u10, u11, u12, u13, u14, u15, u16, u17, u18, u19, u20, u21, u22, u23, u24, u25, u26, u27, u28, u29, u30, u31, u32, u33, u34, u35, u36, u37, u38, u39, u40, u41, u42, u43, u44, u45, u46, u47, u48, rfl⟩
      dsimp only [Exit.then]
      have HP7 := Lib.hid hP7
      have HM7 := Lib.hid hm7
      clear hP7 hm7 hq0 hqf hfa hca hqa hbs1 hnq HF HO1 HO2
      go_wp2
      go_ret
      refine ⟨rfl, v4, v7, ?_, ?_⟩
      · have h := HP7.out
        have hl : i + (es.length - (i + 1)) = (es.eraseIdx i).length := by rw [List.length_eraseIdx]; split <;> omega
        rw [blks_erase, helds_erase, hl] at h
        exact h
      · exact (Mod.of_below (S := RS q (.slice A es.length c) (.slice AH es.length ch)) hb1 (Nat.le_refl _)).trans ((HM4.out.trans HM7.out (fun _ _ h => h)).mono (fun k _ h => .inl h)) (fun _ _ h => h)
    · go_region_law (first | (refine step_append_any _ rfl (.tmp 31) (.tmp 37) 30 rfl base 4 i4 _ 1 1 Try.underlying30 hi4' hz4 hs4 hb4 rfl h01 (.slice (some ⟨w4.heap.size, 0, none⟩) 0 0) 0 [] (by rfl) HF.out w4.heap.size AH i ch _ (by rfl) (HO1.out.alloc (Nat.le_refl _) _) HPT.out hm63 hbt3 hbs1 ?_; intro v1 w5 ho1 hg1 hv1; rw [Nat.zero_add, List.nil_append] at ho1; have hn2 : v1.ownBlock ≠ some q := (by rcases hv1 with h | h <;> rw [h] <;> simp [Value.ownBlock] <;> omega); have hz2 : w4.heap.size < w5.heap.size := (by have := hg1.size; simp at this; omega); have hq2 : q < w5.heap.size := (by omega); have hbs2 : base ≤ w5.heap.size := (by omega); have hf2 := (keep_grown (j := 1) hqa hg1 hnq).2.trans hfa; have hc2 := (keep_grown (j := 1) hqa hg1 hnq).1.trans hca; have HR2 := Lib.hid (((HO2.out.alloc (Nat.le_refl _) (.cells #[] 4)).drew).grown hg1 (by simp) (by simp [Value.ownBlock]))) | (refine step_append_any _ rfl (.tmp 38) (.tmp 45) 30 rfl base 4 i4 _ 1 1 Try.underlying30 hi4' hz4 hs4 hb4 rfl h01 v1 i _ (by rfl) ho1 w4.heap.size (if ch = i + 1 then AH else AH.map (·.add (i + 1))) (es.length - (i + 1)) (ch - (i + 1)) _ (by rfl) HR2.out HPC.out hm64 hbt4 hbs2 ?_; intro v2 w6 ho2 hg2 hv2; have HE := Lib.hid (refp_store1 HP4.out ((((Mod.refl (fun _ => False) w4).alloc _).drew.grown hg1 (fun k hk hk' => (by simp [Value.ownBlock] at hk; omega))).grown hg2 (fun k hk hk' => (by rcases hv1 with h | h <;> rw [h] at hk <;> simp [Value.ownBlock] at hk <;> omega))) ho2); obtain ⟨A2, c2, rfl, _, _⟩ := own_form ho2; have hf3 := (keep_grown (j := 1) hq2 hg2 hn2).2.trans hf2; have hc3 := (keep_grown (j := 1) hq2 hg2 hn2).1.trans hc2))
      all_goals exact ⟨⟨_, HE.out⟩, _, _, _, _, _, _, _, _, _, _, _, _, _, _, _, _, _, _, _, _, _, _, _, _, _, _, _, _, _, _, _, _, _, _, _, _, _, _, _, _, _, _, _, rfl⟩
  · go_region_law (first | (refine step_append_any _ rfl (.tmp 12) (.tmp 18) 29 rfl base 35 i35 _ 3 24 Try.underlying29 hi35 hz35 hs35 hb35 rfl h03 (.slice (some ⟨w1.heap.size, 0, none⟩) 0 0) 0 [] (by rfl) HF.out w1.heap.size A i c _ (by rfl) (HO1.out.alloc (Nat.le_refl _) _) HOT.out hm63 hbt1 hbs1 ?_; intro v1 w2 ho1 hg1 hv1; rw [Nat.zero_add, List.nil_append] at ho1; have hn2 : v1.ownBlock ≠ some q := (by rcases hv1 with h | h <;> rw [h] <;> simp [Value.ownBlock] <;> omega); have hz2 : w1.heap.size < w2.heap.size := (by have := hg1.size; simp at this; omega); have hq2 : q < w2.heap.size := (by omega); have hbs2 : base ≤ w2.heap.size := (by omega); have hf2 := (keep_grown (j := 0) hqa hg1 hnq).2.trans hfa; have hc2 := (keep_grown (j := 0) hqa hg1 hnq).1.trans hca; have HR2 := Lib.hid (((HO2.out.alloc (Nat.le_refl _) (.cells #[] 35)).drew).grown hg1 (by simp) (by simp [Value.ownBlock]))) | (refine step_append_any _ rfl (.tmp 19) (.tmp 26) 29 rfl base 35 i35 _ 3 24 Try.underlying29 hi35 hz35 hs35 hb35 rfl h03 v1 i _ (by rfl) ho1 w1.heap.size (if c = i + 1 then A else A.map (·.add ((i + 1) * 3))) (es.length - (i + 1)) (c - (i + 1)) _ (by rfl) HR2.out HOC.out hm64 hbt2 hbs2 ?_; intro v2 w3 ho2 hg2 hv2; have HE := Lib.hid (refp_store0 HP1.out ((((Mod.refl (fun _ => False) w1).alloc _).drew.grown hg1 (fun k hk hk' => (by simp [Value.ownBlock] at hk; omega))).grown hg2 (fun k hk hk' => (by rcases hv1 with h | h <;> rw [h] at hk <;> simp [Value.ownBlock] at hk <;> omega))) ho2); obtain ⟨A2, c2, rfl, _, _⟩ := own_form ho2; have hf3 := (keep_grown (j := 0) hq2 hg2 hn2).2.trans hf2; have hc3 := (keep_grown (j := 0) hq2 hg2 hn2).1.trans hc2))
    all_goals exact ⟨⟨_, HE.out⟩, _, _, _, _, _, _, _, _, _, _, _, _, _, _, _, _, _, _, _, _, _, _, _, _, rfl⟩

theorem rdrop_any (q base : Nat) (vL vH : Value) (es : List Ent) (t : Int) (w : World) (hlen : es.length ≤ 1000000) (hs : Fit es) (hR : Ref w base q vL vH es) :
    Calls Try.prog 21 #[.pointer (some ⟨q, 0, none⟩), .int .u64 t] w (RefPost (oneS dropA es t) q base vL vH w) := by
  cases hf : found es t
  · have hr : oneS dropA es t = (5, es) := by unfold oneS; rw [hf]; rfl
    rw [hr]
    have HI := Lib.hid (atI_none hf)
    have HR := Lib.hid hR
    have HS := Lib.hid hs
    clear hr hf hR hs
    go_enter Try.func21, Try.ntmps21
    go_wp2_with (go_at_call 37; refine (rat_any q base vL vH es t w hlen HS.out.rising HR.out).mono ?_; rintro r w1 ⟨rfl, hb1⟩; rw [HI.out])
    go_ret
    exact ⟨rfl, vL, vH, HR.out.below hb1 (Nat.le_refl _), Mod.of_below hb1 (Nat.le_refl _)⟩
  · obtain ⟨e, he, _⟩ := found_some hf
    obtain ⟨A, c, rfl, _, _⟩ := own_form hR.2.2.1
    obtain ⟨AH, ch, rfl, _, _⟩ := own_form hR.2.2.2
    have hr : oneS dropA es t = (0, es.eraseIdx (lb es t)) := by unfold oneS; rw [hf]; rfl
    rw [hr]
    exact rdrop_hit q base (lb es t) c ch A AH es t w hlen hs hR (List.getElem?_eq_some_iff.1 he).1 (atI_found hf)
end Go.Proofs.Ytgkloacfickeaaa
