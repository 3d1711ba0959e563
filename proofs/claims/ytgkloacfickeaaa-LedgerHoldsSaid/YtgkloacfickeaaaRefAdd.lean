/- The reference's Add. -/
import Derived.Test.YtgkloacfickeaaaRefRow
import Derived.BigQuiet
import Derived.Test.YtgkloacfickeaaaLast
import Derived.Deep.DrawnRows
namespace Go.Proofs.Ytgkloacfickeaaa
open Go.RowKit
set_option linter.unusedVariables false
set_option linter.unusedSimpArgs false
attribute [local go_sem ↓] Go.wp_at_zero Go.wp_at_succ

/-- A post that speaks of a loop's own way out alone. -/
def AtOut (R : Act → World → Prop) : Exit → Act → World → Prop
  | .exit 0, a, w => R a w
  | _, _, _ => False
theorem AtOut.imp {R : Act → World → Prop} {Q : Exit → Act → World → Prop} (h : ∀ a w, R a w → Q (.exit 0) a w) : ∀ e a w, AtOut R e a w → Q e a w := fun e a w k => by
  cases e with
  | exit n => cases n with
    | zero => exact h a w k
    | succ n => exact (k : False).elim
  | _ => exact (k : False).elim
theorem Mod.far {w w' : World} {k j : Nat} (h : Mod (fun _ => False) w w') (hk : k < w.heap.size) : w'.cell? ⟨k, j, none⟩ = w.cell? ⟨k, j, none⟩ ∧ w'.frozen? ⟨k, j, none⟩ = w.frozen? ⟨k, j, none⟩ := by
  have h := h.block k hk (fun h => h)
  simp [World.cell?, World.frozen?, h]
theorem Reads.mod {w w' : World} {size n : Nat} {A : Option Addr} {xs : List Value} (h : Reads w w.heap.size size A n xs) (hm : Mod (fun _ => False) w w') : Reads w' w.heap.size size A n xs :=
  h.keep fun p hp => World.cell?_of_block (hm.block p.block hp (fun h => h))
theorem reads_block {w : World} {g size : Nat} {cs : Array Value} {t : TypeId} (hg : w.heap[g]? = some (.cells cs t (0, 0))) (hs : cs.toList.length = 1 * size) : Reads w w.heap.size size (some ⟨g, 0, none⟩) 1 cs.toList :=
  ⟨hs, fun _ => ⟨⟨g, 0, none⟩, rfl, (Array.getElem?_eq_some_iff.1 hg).1, cells_of_block hg (fun j u hu => by simpa using hu)⟩⟩
theorem atEnd_normal {R : Act → World → Prop} {a : Act} {w : World} (h : R a w) : AtEnd R .normal a w := h
theorem grown_block_of {w w' : World} {k : Nat} {o : Obj} {v : Value} (hg : w.grownBy w' v.ownBlock) (h : w.heap[k]? = some o) (hn : v.ownBlock ≠ some k) : w'.heap[k]? = some o :=
  (hg.block k (Array.getElem?_eq_some_iff.1 h).1 (fun e => hn e.symm)).trans h
theorem below_drewN {B n : Nat} {w w1 : World} (h : Below B w w1) : Below B w (w1.drewN n) := ⟨h.os, h.tape, h.output, h.size, h.block⟩

set_option maxRecDepth 100000 in
set_option maxHeartbeats 4000000 in
theorem radd_yes (q base c ch : Nat) (A AH : Option Addr) (es : List Ent) (a n al : Int) (w : World) (hlen : es.length ≤ 999999) (hs : Fit es) (hR : Ref w base q (.slice A es.length c) (.slice AH es.length ch) es)
    (a0 : 0 ≤ a) (a1 : a ≤ 18446744073709551615) (n0 : 0 ≤ n) (n1 : n ≤ 18446744073709551615) (l0 : 0 ≤ al) (l1 : al ≤ 18446744073709551615) (hmay : mayB a n al = true) (hfree : freeB es a (max n 1) = true) :
    Calls Try.prog 27 #[.pointer (some ⟨q, 0, none⟩), .agg #[.int .u64 a, .int .u64 n, .int .u64 al]] w (RefPost (0, putAt es (lb es a) ⟨a, n, al, false⟩) q base (.slice A es.length c) (.slice AH es.length ch) w) := by
  have HR := Lib.hid hR
  have HS := Lib.hid hs
  have hq := hR.lt
  have hbq := hR.1
  obtain ⟨hnc, hcm⟩ := own_cap hR.2.2.1
  obtain ⟨hnch, hcmh⟩ := own_cap hR.2.2.2
  have H40 : Hid (Calls Try.prog 40 #[.agg #[.int .u64 a, .int .u64 n, .int .u64 al]] (w.alloc (.cells #[.int .u64 a, .int .u64 n, .int .u64 al] 35)) fun e w' => e = .returned (.bool true) ∧ Below (w.alloc (.cells #[.int .u64 a, .int .u64 n, .int .u64 al] 35)).heap.size (w.alloc (.cells #[.int .u64 a, .int .u64 n, .int .u64 al] 35)) w') := Lib.hid (hmay ▸ rmay_any a n al _ a0 a1 n0 n1 l0 l1)
  have HF0 := Lib.hid hfree
  clear hR hs hmay hfree
  unfold maxLen at hcm hcmh
  go_enter Try.func27, Try.ntmps27
  go_wp2_with (go_at_call 40; refine H40.out.mono ?_; rintro r w1 ⟨rfl, hb1⟩)
  have HR1 := Lib.hid (HR.out.below (below_box hb1) (Nat.le_refl _))
  have hz1 : w.heap.size < w1.heap.size := by have := hb1.size; simp at this; omega
  have hx1 : ∀ o, w1.cell? ⟨w.heap.size, o, none⟩ = (w.alloc (.cells #[.int .u64 a, .int .u64 n, .int .u64 al] 35)).cell? ⟨w.heap.size, o, none⟩ := fun o => hb1.cell (p := ⟨w.heap.size, o, none⟩) (by simp)
  have HCR := Lib.hid (cells_regrown (W := w1) (b := w.heap.size) hz1)
  have H26 : Hid (∀ d os, Calls Try.prog 26 #[.pointer (some ⟨q, 0, none⟩), .int .u64 a, .int .u64 (max n 1)] (Go.Sort.grow (redrawn w1 d) os) fun r w' => r = .returned (.bool true) ∧ Below (Go.Sort.grow (redrawn w1 d) os).heap.size (Go.Sort.grow (redrawn w1 d) os) w') := Lib.hid (fun d os => HF0.out ▸ rfree_any q base _ _ es a (max n 1) _ (by omega) HS.out (HR1.out.below (below_regrown w1 d os) (Nat.le_refl _)) a0 a1 (by omega) (by omega))
  have hcr := HCR.out
  refine wp_region_quiet_below (by kernel_rfl) (by kernel_rfl) ?_
  repeat (go_big_quiet_step (first | (go_at_call 39; exact Calls.regrown_of (takes_any _ _ _ _)) | (go_at_call 26; exact Calls.regrown_of (H26.out _ _))))
  refine wpQuiet_nil ?_
  intro W2 hw2
  have hb2 : Below w1.heap.size w1 W2 := by obtain ⟨⟨dq, osq⟩, rfl⟩ := hw2; exact below_regrown _ _ _
  clear hw2 hcr
  have HRW := Lib.hid (HR1.out.below hb2 (Nat.le_refl _))
  have hz2 : w.heap.size < W2.heap.size := by have := hb2.size; omega
  have hx2 : ∀ o, W2.cell? ⟨w.heap.size, o, none⟩ = (w.alloc (.cells #[.int .u64 a, .int .u64 n, .int .u64 al] 35)).cell? ⟨w.heap.size, o, none⟩ := fun o => (hb2.cell (p := ⟨w.heap.size, o, none⟩) hz1).trans (hx1 o)
  have HB2 := Lib.hid ((below_box hb1).trans (hb2.mono (by omega)))
  clear hx1 hb1 hb2
  go_wp2
  refine Code.wp_mono (Q := AtOut fun a' w' => Below W2.heap.size W2 w' ∧ ∃ u6 u7 u8 u9 u10 u11 u12 u13 u14 u15 u16 u17 u18 u19 u20 u21 u22 u23 u24 u25 u26 u27 u28 u29 u30 u31 u32 u33 u34 u35 u36 u37, a' = { tmps := #[.pointer (some ⟨q, 0, none⟩), .agg #[.int .u64 a, .int .u64 n, .int .u64 al], undef, .pointer (some ⟨w.heap.size, 0, none⟩), .int .i64 0, .int .i64 (lb es a : Nat), u6, u7, u8, u9, u10, u11, u12, u13, u14, u15, u16, u17, u18, u19, u20, u21, u22, u23, u24, u25, u26, u27, u28, u29, u30, u31, u32, u33, u34, u35, u36, u37, undef, undef, undef, undef, undef, undef, undef, undef, undef, undef, undef, undef, undef, undef, undef, undef, undef, undef, undef, undef, undef, undef, undef, undef, undef, undef, undef, undef, undef, undef, undef, undef, undef, undef, undef, undef, undef, undef, undef, undef, undef], defers := [] }) ?_ ?_
  · refine AtOut.imp ?_
    rintro a' W3 ⟨hb3, u6, u7, u8, u9, u10, u11, u12, u13, u14, u15, u16, u17, u18, u19, u20, u21, u22, u23, u24, u25, u26, u27, u28, u29, u30, u31, u32, u33, u34, u35, u36, u37, rfl⟩
    dsimp only [Exit.then, Exit.inBlock]
    have hz3 : w.heap.size < W3.heap.size := by have := hb3.size; omega
    have HP3 : Hid (RefP W3 base q (.slice A es.length c) (.slice AH es.length ch) es.length (blks es) es.length (helds es)) := HRW.out.below hb3 (Nat.le_refl _)
    have hbx0 : W3.cell? ⟨w.heap.size, 0, none⟩ = some (.int .u64 a) := by rw [hb3.cell (p := ⟨w.heap.size, 0, none⟩) hz2, hx2]; simp
    have hbx1 : W3.cell? ⟨w.heap.size, 1, none⟩ = some (.int .u64 n) := by rw [hb3.cell (p := ⟨w.heap.size, 1, none⟩) hz2, hx2]; simp
    have hbx2 : W3.cell? ⟨w.heap.size, 2, none⟩ = some (.int .u64 al) := by rw [hb3.cell (p := ⟨w.heap.size, 2, none⟩) hz2, hx2]; simp
    have HB3 := Lib.hid (HB2.out.trans (hb3.mono (by omega)))
    have hi := lb_le es a
    clear hx2 hb3 HRW HF0 H40
    obtain ⟨i, hli⟩ : ∃ i, lb es a = i := ⟨_, rfl⟩
    rw [hli] at hi ⊢
    have HLI := Lib.hid hli
    clear hli
    have hcl := HP3.out.2.1
    have hq0 : W3.cell? ⟨q, 0, none⟩ = some (.slice A es.length c) := by simp [World.cell?, hcl]
    have hqf : W3.frozen? ⟨q, 0, none⟩ = false := by simp [World.frozen?, hcl]
    clear hcl
    obtain ⟨i35, hi35, hz35, hs35, hb35⟩ := info_parts info35
    obtain ⟨i4, hi4, hz4, hs4, hb4⟩ := info_parts info4
    have hi0 : (0 : Int) ≤ (i : Int) := Int.natCast_nonneg _
    have hi1 : (i : Int) ≤ es.length := by omega
    have hi2 : (i : Int) ≤ c := by omega
    have hi3 : (i : Int) ≤ ch := by omega
    have hm63 : 0 + i ≤ maxLen := by unfold maxLen; omega
    have hm64 : i + 1 ≤ maxLen := by unfold maxLen; omega
    have hm65 : i + 1 + (es.length - i) ≤ maxLen := by unfold maxLen; omega
    have h03 : 0 < 3 := by omega
    have h01 : 0 < 1 := by omega
    have ht1 : (0 + i) * 24 ≤ 140737488355328 := by omega
    have ht2 : (i + 1) * 24 ≤ 140737488355328 := by omega
    have ht3 : (i + 1 + (es.length - i)) * 24 ≤ 140737488355328 := by omega
    have hu1 : (0 + i) * 1 ≤ 140737488355328 := by omega
    have hu2 : (i + 1) * 1 ≤ 140737488355328 := by omega
    have hu3 : (i + 1 + (es.length - i)) * 1 ≤ 140737488355328 := by omega
    have HOT : Hid (∀ u ∈ (blks es).take (i * 3), u.oneCell' = true) := Lib.hid (fun u hu => oneCell_blks es u (List.mem_of_mem_take hu))
    have HOC : Hid (∀ u ∈ (blks es).drop (i * 3), u.oneCell' = true) := Lib.hid (fun u hu => oneCell_blks es u (List.mem_of_mem_drop hu))
    have HPT : Hid (∀ u ∈ (helds es).take i, u.oneCell' = true) := Lib.hid (fun u hu => oneCell_helds es u (List.mem_of_mem_take hu))
    have HPC : Hid (∀ u ∈ (helds es).drop i, u.oneCell' = true) := Lib.hid (fun u hu => oneCell_helds es u (List.mem_of_mem_drop hu))
    have hqW : q < W3.heap.size := by omega
    have hbW : w.heap.size < W3.heap.size := hz3
    have hbW0 : base ≤ W3.heap.size := by omega
    clear hz2
    go_wp2
    refine Code.wp_mono (Q := AtEnd fun a' w' => (∃ v', RefP w' base q v' (.slice AH es.length ch) (i + 1 + (es.length - i)) ((blks es).take (i * 3) ++ [.int .u64 a, .int .u64 n, .int .u64 al] ++ (blks es).drop (i * 3)) es.length (helds es) ∧ Mod (fun k => k = q) W3 w') ∧
      ∃ u6 u7 u8 u9 u10 u11 u12 u13 u14 u15 u16 u17 u18 u19 u20 u21 u22 u23 u24 u25 u26 u27 u28 u29 u30 u31 u32 u33 u34 u35 u36 u37 u38 u39 u40 u41 u42 u43 u44 u45 u46 u47 u48 u49 u50 u51 u52 u53 u54 u55 u56 u57 u58, a' = { tmps := #[.pointer (some ⟨q, 0, none⟩), .agg #[.int .u64 a, .int .u64 n, .int .u64 al], undef, .pointer (some ⟨w.heap.size, 0, none⟩), .int .i64 0, .int .i64 (i : Nat), u6, u7, u8, u9, u10, u11, u12, u13, u14, u15, u16, u17, u18, u19, u20, u21, u22, u23, u24, u25, u26, u27, u28, u29, u30, u31, u32, u33, u34, u35, u36, u37, u38, u39, u40, u41, u42, u43, u44, u45, u46, u47, u48, u49, u50, u51, u52, u53, u54, u55, u56, u57, u58, undef, undef, undef, undef, undef, undef, undef, undef, undef, undef, undef, undef, undef, undef, undef, undef, undef, undef, undef, undef], defers := [] }) ?_ ?_
    · refine AtEnd.imp ?_
      rintro a' W4 ⟨⟨v4, hP4, hm4⟩, u6, u7, u8, u9, u10, u11, u12, u13, u14, u15, u16, u17, u18, u19, u20, u21, u22, u23, u24, u25, u26, u27, u28, u29, u30, u31, u32, u33, u34, u35, u36, u37, u38, u39, u40, u41, u42, u43, u44, u45, u46, u47, u48, u49, u50, u51, u52, u53, u54, u55, u56, u57, u58, rfl⟩
      dsimp only [Exit.then]
      have hzw4 := hm4.size
      have HM4 := Lib.hid hm4
      have HP4 := Lib.hid hP4
      clear hP4 hm4 hq0 hqf hbx0 hbx1 hbx2 HP3
      have hcl := HP4.out.2.1
      have hq0 : W4.cell? ⟨q, 1, none⟩ = some (.slice AH es.length ch) := by simp [World.cell?, hcl]
      have hqf : W4.frozen? ⟨q, 1, none⟩ = false := by simp [World.frozen?, hcl]
      clear hcl
      have hqW : q < W4.heap.size := by omega
      have hbW0 : base ≤ W4.heap.size := by omega
      go_wp2
      refine Code.wp_mono (Q := AtEnd fun a' w' => (∃ v', RefP w' base q v4 v' (i + 1 + (es.length - i)) ((blks es).take (i * 3) ++ [.int .u64 a, .int .u64 n, .int .u64 al] ++ (blks es).drop (i * 3)) (i + 1 + (es.length - i)) ((helds es).take i ++ [.bool false] ++ (helds es).drop i) ∧ Mod (fun k => k = q) W4 w') ∧
        ∃ u6 u7 u8 u9 u10 u11 u12 u13 u14 u15 u16 u17 u18 u19 u20 u21 u22 u23 u24 u25 u26 u27 u28 u29 u30 u31 u32 u33 u34 u35 u36 u37 u38 u39 u40 u41 u42 u43 u44 u45 u46 u47 u48 u49 u50 u51 u52 u53 u54 u55 u56 u57 u58 u59 u60 u61 u62 u63 u64 u65 u66 u67 u68 u69 u70 u71 u72 u73 u74 u75 u76 u77 u78, a' = { tmps := #[.pointer (some ⟨q, 0, none⟩), .agg #[.int .u64 a, .int .u64 n, .int .u64 al], undef, .pointer (some ⟨w.heap.size, 0, none⟩), .int .i64 0, .int .i64 (i : Nat), u6, u7, u8, u9, u10, u11, u12, u13, u14, u15, u16, u17, u18, u19, u20, u21, u22, u23, u24, u25, u26, u27, u28, u29, u30, u31, u32, u33, u34, u35, u36, u37, u38, u39, u40, u41, u42, u43, u44, u45, u46, u47, u48, u49, u50, u51, u52, u53, u54, u55, u56, u57, u58, u59, u60, u61, u62, u63, u64, u65, u66, u67, u68, u69, u70, u71, u72, u73, u74, u75, u76, u77, u78], defers := [] }) ?_ ?_
      · refine AtEnd.imp ?_
        rintro a' W7 ⟨⟨v7, hP7, hm7⟩, u6, u7, u8, u9, u10, u11, u12, u13, u14, u15, u16, u17, u18, u19, u20, u21, u22, u23, u24, u25, u26, u27, u28, u29, u30, u31, u32, u33, u34, u35, u36, u37, u38, u39, u40, u41, u42, u43, u44, u45, u46, u47, u48, u49, u50, u51, u52, u53, u54, u55, u56, u57, u58, u59, u60, u61, u62, u63, u64, u65, u66, u67, u68, u69, u70, u71, u72, u73, u74, u75, u76, u77, u78, rfl⟩
        dsimp only [Exit.then]
        have HP7 := Lib.hid hP7
        have HM7 := Lib.hid hm7
        clear hP7 hm7 hq0 hqf
        go_wp2
        go_ret
        refine ⟨rfl, v4, v7, ?_, ?_⟩
        · have h := HP7.out
          have hl : i + 1 + (es.length - i) = (putAt es i ⟨a, n, al, false⟩).length := by rw [length_putAt]; omega
          rw [show ([.int .u64 a, .int .u64 n, .int .u64 al] : List Value) = Ent.blk ⟨a, n, al, false⟩ from rfl, blks_put es i ⟨a, n, al, false⟩, helds_put es i ⟨a, n, al, false⟩, hl] at h
          rw [HLI.out]
          exact h
        · exact (Mod.of_below (S := RS q (.slice A es.length c) (.slice AH es.length ch)) HB3.out (Nat.le_refl _)).trans ((HM4.out.trans HM7.out (fun _ _ h => h)).mono (fun k _ h => .inl h)) (fun _ _ h => h)
      · have hone : ∀ u ∈ ([.bool false] : List Value), u.oneCell' = true := by intro u hu; simp at hu; subst hu; rfl
        have keepS : ∀ w', Mod (fun _ => False) W4 w' → w'.cell? ⟨q, 1, none⟩ = some (.slice AH es.length ch) ∧ w'.frozen? ⟨q, 1, none⟩ = false := fun w' hm => ⟨(hm.far hqW).1.trans hq0, (hm.far hqW).2.trans hqf⟩
        have KS := Lib.hid keepS
        clear keepS
        have M0 : Mod (fun _ => False) W4 W4.drew := (Mod.refl _ _).drew
        have M1 : Mod (fun _ => False) W4 (W4.alloc (.cells #[] 4)).drew := ((Mod.refl (fun _ => False) W4).alloc _).drew
        have M2 : Mod (fun _ => False) W4 (W4.alloc (.cells #[.bool false] 4)).drew := ((Mod.refl (fun _ => False) W4).alloc _).drew
        have M12 : Mod (fun _ => False) W4 ((W4.alloc (.cells #[] 4)).alloc (.cells #[.bool false] 4)).drew := (((Mod.refl (fun _ => False) W4).alloc _).alloc _).drew
        have M21 : Mod (fun _ => False) W4 ((W4.alloc (.cells #[.bool false] 4)).alloc (.cells #[] 4)).drew := (((Mod.refl (fun _ => False) W4).alloc _).alloc _).drew
        have HR1 := Lib.hid (show Reads W4 W4.heap.size 1 AH i ((helds es).take i) by have h := own_prefix_any HP4.out.2.2.2 (k := i) hi; rwa [Nat.mul_one] at h)
        have HR2 := Lib.hid (show Reads W4 W4.heap.size 1 (if ch = i then AH else AH.map (·.add i)) (es.length - i) ((helds es).drop i) by have h := Reads.cut (Reads.of_own HP4.out.2.2.2) (k := i) (cap := ch) hi hnch; rwa [Nat.mul_one] at h)
        have HO1 : Hid (((W4.alloc (.cells #[] 4)).alloc (.cells #[.bool false] 4)).drew.ownsRow base 4 1 (.slice (some ⟨W4.heap.size, 0, none⟩) 0 0) 0 []) := Lib.hid (own_mod (S := fun _ => False) (own_fresh hbW0) (((Mod.refl (fun _ => False) (W4.alloc (.cells #[] 4))).alloc (.cells #[.bool false] 4)).drew) (fun _ _ h => h))
        have HO2 : Hid (((W4.alloc (.cells #[.bool false] 4)).alloc (.cells #[] 4)).drew.ownsRow base 4 1 (.slice (some ⟨W4.heap.size + 1, 0, none⟩) 0 0) 0 []) := Lib.hid (by have h := own_fresh (w := W4.alloc (.cells #[.bool false] 4)) (base := base) (e := 4) (size := 1) (by simp; omega); rw [World.size_alloc] at h; exact h)
        have HO3 : Hid ((W4.alloc (.cells #[] 4)).drew.ownsRow base 4 1 (.slice (some ⟨W4.heap.size, 0, none⟩) 0 0) 0 []) := Lib.hid (own_fresh hbW0)
        have hbs1 : base ≤ (W4.alloc (.cells #[] 4)).drew.heap.size := by simp; omega
        have hbs3 : base ≤ ((W4.alloc (.cells #[] 4)).alloc (.cells #[.bool false] 4)).drew.heap.size := by simp; omega
        have hbs4 : base ≤ ((W4.alloc (.cells #[.bool false] 4)).alloc (.cells #[] 4)).drew.heap.size := by simp; omega
        have HS1 : Hid (((W4.alloc (.cells #[] 4)).alloc (.cells #[.bool false] 4)).drew.heap[W4.heap.size + 1]? = some (.cells #[.bool false] 4 (0, 0))) := Lib.hid (by have h := heap_alloc_new (W4.alloc (.cells #[] 4)) (.cells #[.bool false] 4); rw [World.size_alloc] at h; exact h)
        have HS2 : Hid (((W4.alloc (.cells #[.bool false] 4)).alloc (.cells #[] 4)).drew.heap[W4.heap.size]? = some (.cells #[.bool false] 4 (0, 0))) := Lib.hid (by have h := Below.heap_alloc (W4.alloc (.cells #[.bool false] 4)) (.cells #[] 4) W4.heap.size (by simp); exact h.trans (heap_alloc_new W4 _))
        refine wp_region_last (l := 20) (L := #[false, false, false, false, false, false, false, false, false, false, false, false, false, false, false, false, false, false, false, false, true]) (S := fun w' => w'.cell? ⟨q, 1, none⟩ = some (.slice AH es.length ch) ∧ w'.frozen? ⟨q, 1, none⟩ = false) (by kernel_rfl) (by kernel_rfl) (by kernel_rfl) (by kernel_rfl) (KS.out _ M0) (fun hHeld => ?_)
        refine wpAnyH_take (i := 0) (v := ?_) rfl (by kernel_rfl) (by kernel_rfl) (by kernel_rfl) (fun _ _ _ h => h) (Or.inl ⟨by rfl, ?_⟩) (by assumption) ?_
        rotate_left 1
        · intro w' hSw; (try dsimp only at hSw); go_simp; first | done | (with_reducible rfl)
        try simp only [Act.put, List.getElem_toArray, List.getElem_cons_succ, List.getElem_cons_zero, List.setIfInBounds_toArray, List.set_cons_zero, List.set_cons_succ]
        refine wpAnyH_take (i := 2) (v := ?_) rfl (by kernel_rfl) (by kernel_rfl) (by kernel_rfl) (fun _ _ _ h => h) (Or.inl ⟨by rfl, ?_⟩) (by assumption) ?_
        rotate_left 1
        · intro w' hSw; (try dsimp only at hSw); go_simp; first | done | (with_reducible rfl)
        try simp only [Act.put, List.getElem_toArray, List.getElem_cons_succ, List.getElem_cons_zero, List.setIfInBounds_toArray, List.set_cons_zero, List.set_cons_succ]
        refine wpAnyH_take (i := 3) (v := ?_) rfl (by kernel_rfl) (by kernel_rfl) (by kernel_rfl) (fun _ _ _ h => h) (Or.inl ⟨by rfl, ?_⟩) (by assumption) ?_
        rotate_left 1
        · intro w' hSw; (try dsimp only at hSw); go_simp; first | done | (with_reducible rfl)
        try simp only [Act.put, List.getElem_toArray, List.getElem_cons_succ, List.getElem_cons_zero, List.setIfInBounds_toArray, List.set_cons_zero, List.set_cons_succ]
        refine wpAnyH_take (i := 4) (v := ?_) rfl (by kernel_rfl) (by kernel_rfl) (by kernel_rfl) (fun _ _ _ h => h) (Or.inl ⟨by rfl, ?_⟩) (by assumption) ?_
        rotate_left 1
        · intro w' hSw; (try dsimp only at hSw); go_simp; first | done | (with_reducible rfl)
        try simp only [Act.put, List.getElem_toArray, List.getElem_cons_succ, List.getElem_cons_zero, List.setIfInBounds_toArray, List.set_cons_zero, List.set_cons_succ]
        refine wpAnyH_take (i := 5) (v := ?_) rfl (by kernel_rfl) (by kernel_rfl) (by kernel_rfl) (fun _ _ _ h => h) (Or.inl ⟨by rfl, ?_⟩) (by assumption) ?_
        rotate_left 1
        · intro w' hSw; (try dsimp only at hSw); go_simp; first | done | (with_reducible rfl)
        try simp only [Act.put, List.getElem_toArray, List.getElem_cons_succ, List.getElem_cons_zero, List.setIfInBounds_toArray, List.set_cons_zero, List.set_cons_succ]
        refine wpAnyH_take (i := 6) (v := ?_) rfl (by kernel_rfl) (by kernel_rfl) (by kernel_rfl) (fun _ _ _ h => h) (Or.inl ⟨by rfl, ?_⟩) (by assumption) ?_
        rotate_left 1
        · intro w' hSw; (try dsimp only at hSw); go_simp; first | done | (with_reducible rfl)
        try simp only [Act.put, List.getElem_toArray, List.getElem_cons_succ, List.getElem_cons_zero, List.setIfInBounds_toArray, List.set_cons_zero, List.set_cons_succ]
        refine wpAnyH_take (i := 7) (v := ?_) rfl (by kernel_rfl) (by kernel_rfl) (by kernel_rfl) (fun _ _ _ h => h) (Or.inl ⟨by rfl, ?_⟩) (by assumption) ?_
        rotate_left 1
        · intro w' hSw; (try dsimp only at hSw); go_simp; first | done | (with_reducible rfl)
        try simp only [Act.put, List.getElem_toArray, List.getElem_cons_succ, List.getElem_cons_zero, List.setIfInBounds_toArray, List.set_cons_zero, List.set_cons_succ]
        refine wpAnyH_take (i := 11) (v := ?_) rfl (by kernel_rfl) (by kernel_rfl) (by kernel_rfl) (fun _ _ _ h => h) (Or.inl ⟨by rfl, ?_⟩) (by assumption) ?_
        rotate_left 1
        · intro w' hSw; (try dsimp only at hSw); go_simp; first | done | (with_reducible rfl)
        try simp only [Act.put, List.getElem_toArray, List.getElem_cons_succ, List.getElem_cons_zero, List.setIfInBounds_toArray, List.set_cons_zero, List.set_cons_succ]
        refine wpAnyH_take (i := 12) (v := ?_) rfl (by kernel_rfl) (by kernel_rfl) (by kernel_rfl) (fun _ _ _ h => h) (Or.inl ⟨by rfl, ?_⟩) (by assumption) ?_
        rotate_left 1
        · intro w' hSw; (try dsimp only at hSw); go_simp; first | done | (with_reducible rfl)
        try simp only [Act.put, List.getElem_toArray, List.getElem_cons_succ, List.getElem_cons_zero, List.setIfInBounds_toArray, List.set_cons_zero, List.set_cons_succ]
        refine wpAnyH_take (i := 13) (v := ?_) rfl (by kernel_rfl) (by kernel_rfl) (by kernel_rfl) (fun _ _ _ h => h) (Or.inl ⟨by rfl, ?_⟩) (by assumption) ?_
        rotate_left 1
        · intro w' hSw; (try dsimp only at hSw); go_simp; first | done | (with_reducible rfl)
        try simp only [Act.put, List.getElem_toArray, List.getElem_cons_succ, List.getElem_cons_zero, List.setIfInBounds_toArray, List.set_cons_zero, List.set_cons_succ]
        refine wpAnyH_take (i := 14) (v := ?_) rfl (by kernel_rfl) (by kernel_rfl) (by kernel_rfl) (fun _ _ _ h => h) (Or.inl ⟨by rfl, ?_⟩) (by assumption) ?_
        rotate_left 1
        · intro w' hSw; (try dsimp only at hSw); go_simp; first | done | (with_reducible rfl)
        try simp only [Act.put, List.getElem_toArray, List.getElem_cons_succ, List.getElem_cons_zero, List.setIfInBounds_toArray, List.set_cons_zero, List.set_cons_succ]
        refine wpAnyH_take (i := 15) (v := ?_) rfl (by kernel_rfl) (by kernel_rfl) (by kernel_rfl) (fun _ _ _ h => h) (Or.inl ⟨by rfl, ?_⟩) (by assumption) ?_
        rotate_left 1
        · intro w' hSw; (try dsimp only at hSw); go_simp; first | done | (with_reducible rfl)
        try simp only [Act.put, List.getElem_toArray, List.getElem_cons_succ, List.getElem_cons_zero, List.setIfInBounds_toArray, List.set_cons_zero, List.set_cons_succ]
        refine wpAnyH_take (i := 16) (v := ?_) rfl (by kernel_rfl) (by kernel_rfl) (by kernel_rfl) (fun _ _ _ h => h) (Or.inl ⟨by rfl, ?_⟩) (by assumption) ?_
        rotate_left 1
        · intro w' hSw; (try dsimp only at hSw); go_simp; first | done | (with_reducible rfl)
        try simp only [Act.put, List.getElem_toArray, List.getElem_cons_succ, List.getElem_cons_zero, List.setIfInBounds_toArray, List.set_cons_zero, List.set_cons_succ]
        refine wpAnyH_ready (rs := [1, 9]) (by kernel_rfl) (by simp) ?_
        refine AllReadyH.cons rfl (fun K hK => ?_) (AllReadyH.cons rfl (fun K hK => ?_) AllReadyH.nil)
        · go_simp
          refine hK.out _ _ (KS.out _ M1) (fun hHeld => ?_)
          clear hK K
          try simp only [Act.put, List.getElem_toArray, List.getElem_cons_succ, List.getElem_cons_zero, List.setIfInBounds_toArray, List.set_cons_zero, List.set_cons_succ]
          refine wpAnyH_ready (rs := [8, 9]) (by kernel_rfl) (by simp) ?_
          refine AllReadyH.cons rfl (fun K hK => ?_) (AllReadyH.cons rfl (fun K hK => ?_) AllReadyH.nil)
          · refine step_append_any _ rfl (.tmp 60) (.tmp 66) 30 rfl base 4 i4 _ 1 1 Try.underlying30 hi4 hz4 hs4 hb4 rfl h01 (.slice (some ⟨W4.heap.size, 0, none⟩) 0 0) 0 [] rfl HO3.out W4.heap.size AH i ch _ rfl (HR1.out.mod M1) HPT.out hm63 hu1 hbs1 ?_
            intro v1 w2 ho1 hg1 hv1
            rw [Nat.zero_add, List.nil_append] at ho1
            have hM2 : Mod (fun _ => False) W4 w2 := M1.grown hg1 (fun k hk hk' => by simp [Value.ownBlock] at hk; omega)
            have hz2 := hM2.size
            have hbs5 : base ≤ w2.heap.size := by omega
            have hrow : ∀ k, v1.ownBlock = some k → k < W4.heap.size → False := fun k hk hk' => by rcases hv1 with h | h <;> rw [h] at hk <;> simp [Value.ownBlock] at hk <;> omega
            refine hK.out _ _ (KS.out _ hM2) (fun hHeld => ?_)
            clear hK K
            try simp only [Act.put, List.getElem_toArray, List.getElem_cons_succ, List.getElem_cons_zero, List.setIfInBounds_toArray, List.set_cons_zero, List.set_cons_succ]
            refine wpAnyH_ready (rs := [9]) (by kernel_rfl) (by simp) ?_
            refine AllReadyH.cons rfl (fun K hK => ?_) AllReadyH.nil
            go_simp
            refine hK.out _ _ (KS.out _ (hM2.alloc _)) (fun hHeld => ?_)
            clear hK K
            try simp only [Act.put, List.getElem_toArray, List.getElem_cons_succ, List.getElem_cons_zero, List.setIfInBounds_toArray, List.set_cons_zero, List.set_cons_succ]
            have HN : Hid (Reads (w2.alloc (.cells #[.bool false] 4)) (w2.alloc (.cells #[.bool false] 4)).heap.size 1 (some ⟨w2.heap.size, 0, none⟩) 1 [.bool false]) := Lib.hid (reads_block (heap_alloc_new w2 _) rfl)
            have HOV := Lib.hid (own_mod (S := fun _ => False) ho1 ((Mod.refl _ _).alloc (.cells #[.bool false] 4)) (fun _ _ h => h))
            have hM6 : Mod (fun _ => False) W4 (w2.alloc (.cells #[.bool false] 4)) := hM2.alloc _
            have hbs6 : base ≤ (w2.alloc (.cells #[.bool false] 4)).heap.size := by simp; omega
            refine wpAnyH_ready (rs := [10]) (by kernel_rfl) (by simp) ?_
            refine AllReadyH.cons rfl (fun K hK => ?_) AllReadyH.nil
            refine step_append_any _ rfl (.tmp 67) (.tmp 68) 30 rfl base 4 i4 _ 1 1 Try.underlying30 hi4 hz4 hs4 hb4 rfl h01 v1 i _ rfl HOV.out (w2.alloc (.cells #[.bool false] 4)).heap.size (some ⟨w2.heap.size, 0, none⟩) 1 1 _ rfl HN.out hone hm64 hu2 hbs6 ?_
            intro v2 w3 ho2 hg2 hv2
            have hM3 : Mod (fun _ => False) W4 w3 := hM6.grown hg2 (fun k hk hk' => hrow k hk hk')
            have hz3' := hM3.size
            have hbs7 : base ≤ w3.heap.size := by omega
            have hrow2 : ∀ k, v2.ownBlock = some k → k < W4.heap.size → False := fun k hk hk' => by
              rcases hv2 with h | h <;> rw [h] at hk
              · exact hrow k hk hk'
              · simp at hk; omega
            refine hK.out _ _ (KS.out _ hM3) (fun hHeld => ?_)
            clear hK K
            try simp only [Act.put, List.getElem_toArray, List.getElem_cons_succ, List.getElem_cons_zero, List.setIfInBounds_toArray, List.set_cons_zero, List.set_cons_succ]
            refine wpAnyH_ready (rs := [17]) (by kernel_rfl) (by simp) ?_
            refine AllReadyH.cons rfl (fun K hK => ?_) AllReadyH.nil
            refine step_append_any _ rfl (.tmp 69) (.tmp 75) 30 rfl base 4 i4 _ 1 1 Try.underlying30 hi4 hz4 hs4 hb4 rfl h01 v2 (i + 1) _ rfl ho2 W4.heap.size (if ch = i then AH else AH.map (·.add (i))) (es.length - i) (ch - i) _ rfl (HR2.out.mod hM3) HPC.out hm65 hu3 hbs7 ?_
            intro v3 w4 ho3 hg3 hv3
            have hM4 : Mod (fun _ => False) W4 w4 := hM3.grown hg3 (fun k hk hk' => hrow2 k hk hk')
            have HE := Lib.hid (refp_store1 HP4.out hM4 ho3)
            obtain ⟨A3, c3, rfl, _, _⟩ := own_form ho3
            refine hK.out _ _ (KS.out _ hM4) (fun hHeld => ?_)
            clear hK K
            try simp only [Act.put, List.getElem_toArray, List.getElem_cons_succ, List.getElem_cons_zero, List.setIfInBounds_toArray, List.set_cons_zero, List.set_cons_succ]
            refine wpAnyH_take (i := 18) (v := ?_) rfl (by kernel_rfl) (by kernel_rfl) (by kernel_rfl) (fun _ _ _ h => h) (Or.inl ⟨by rfl, ?_⟩) (by assumption) ?_
            rotate_left 1
            · intro w' hSw; (try dsimp only at hSw); go_simp; first | done | (with_reducible rfl)
            try simp only [Act.put, List.getElem_toArray, List.getElem_cons_succ, List.getElem_cons_zero, List.setIfInBounds_toArray, List.set_cons_zero, List.set_cons_succ]
            refine wpAnyH_take (i := 19) (v := ?_) rfl (by kernel_rfl) (by kernel_rfl) (by kernel_rfl) (fun _ _ _ h => h) (Or.inl ⟨by rfl, ?_⟩) (by assumption) ?_
            rotate_left 1
            · intro w' hSw; (try dsimp only at hSw); go_simp; first | done | (with_reducible rfl)
            try simp only [Act.put, List.getElem_toArray, List.getElem_cons_succ, List.getElem_cons_zero, List.setIfInBounds_toArray, List.set_cons_zero, List.set_cons_succ]
            refine wpAnyH_done (by kernel_rfl) ?_ _
            have hkc := KS.out _ hM4
            refine atEnd_normal ?_
            refine wpOp_step rfl (fun K' hK => ?_)
            go_simp
            exact hK _ _ ⟨⟨_, HE.out⟩, _, _, _, _, _, _, _, _, _, _, _, _, _, _, _, _, _, _, _, _, _, _, _, _, _, _, _, _, _, _, _, _, _, _, _, _, _, _, _, _, _, _, _, _, _, _, _, _, _, _, _, _, _, _, _, _, _, _, _, _, _, _, _, _, _, _, _, _, _, _, _, _, _, rfl⟩
          · go_simp
            refine hK.out _ _ (KS.out _ M12) (fun hHeld => ?_)
            clear hK K
            try simp only [Act.put, List.getElem_toArray, List.getElem_cons_succ, List.getElem_cons_zero, List.setIfInBounds_toArray, List.set_cons_zero, List.set_cons_succ]
            refine wpAnyH_ready (rs := [8]) (by kernel_rfl) (by simp) ?_
            refine AllReadyH.cons rfl (fun K hK => ?_) AllReadyH.nil
            refine step_append_any _ rfl (.tmp 60) (.tmp 66) 30 rfl base 4 i4 _ 1 1 Try.underlying30 hi4 hz4 hs4 hb4 rfl h01 (.slice (some ⟨W4.heap.size, 0, none⟩) 0 0) 0 [] rfl HO1.out W4.heap.size AH i ch _ rfl (HR1.out.mod M12) HPT.out hm63 hu1 hbs3 ?_
            intro v1 w2 ho1 hg1 hv1
            rw [Nat.zero_add, List.nil_append] at ho1
            have hM2 : Mod (fun _ => False) W4 w2 := M12.grown hg1 (fun k hk hk' => by simp [Value.ownBlock] at hk; omega)
            have hz2 := hM2.size
            have hbs5 : base ≤ w2.heap.size := by omega
            have hrow : ∀ k, v1.ownBlock = some k → k < W4.heap.size → False := fun k hk hk' => by rcases hv1 with h | h <;> rw [h] at hk <;> simp [Value.ownBlock] at hk <;> omega
            refine hK.out _ _ (KS.out _ hM2) (fun hHeld => ?_)
            clear hK K
            try simp only [Act.put, List.getElem_toArray, List.getElem_cons_succ, List.getElem_cons_zero, List.setIfInBounds_toArray, List.set_cons_zero, List.set_cons_succ]
            have HN : Hid (Reads w2 w2.heap.size 1 (some ⟨W4.heap.size + 1, 0, none⟩) 1 [.bool false]) := Lib.hid (reads_block (grown_block_of hg1 HS1.out (by simp [Value.ownBlock])) rfl)
            refine wpAnyH_ready (rs := [10]) (by kernel_rfl) (by simp) ?_
            refine AllReadyH.cons rfl (fun K hK => ?_) AllReadyH.nil
            refine step_append_any _ rfl (.tmp 67) (.tmp 68) 30 rfl base 4 i4 _ 1 1 Try.underlying30 hi4 hz4 hs4 hb4 rfl h01 v1 i _ rfl ho1 w2.heap.size (some ⟨W4.heap.size + 1, 0, none⟩) 1 1 _ rfl HN.out hone hm64 hu2 hbs5 ?_
            intro v2 w3 ho2 hg2 hv2
            have hM3 : Mod (fun _ => False) W4 w3 := hM2.grown hg2 (fun k hk hk' => hrow k hk hk')
            have hz3' := hM3.size
            have hbs7 : base ≤ w3.heap.size := by omega
            have hrow2 : ∀ k, v2.ownBlock = some k → k < W4.heap.size → False := fun k hk hk' => by
              rcases hv2 with h | h <;> rw [h] at hk
              · exact hrow k hk hk'
              · simp at hk; omega
            refine hK.out _ _ (KS.out _ hM3) (fun hHeld => ?_)
            clear hK K
            try simp only [Act.put, List.getElem_toArray, List.getElem_cons_succ, List.getElem_cons_zero, List.setIfInBounds_toArray, List.set_cons_zero, List.set_cons_succ]
            refine wpAnyH_ready (rs := [17]) (by kernel_rfl) (by simp) ?_
            refine AllReadyH.cons rfl (fun K hK => ?_) AllReadyH.nil
            refine step_append_any _ rfl (.tmp 69) (.tmp 75) 30 rfl base 4 i4 _ 1 1 Try.underlying30 hi4 hz4 hs4 hb4 rfl h01 v2 (i + 1) _ rfl ho2 W4.heap.size (if ch = i then AH else AH.map (·.add (i))) (es.length - i) (ch - i) _ rfl (HR2.out.mod hM3) HPC.out hm65 hu3 hbs7 ?_
            intro v3 w4 ho3 hg3 hv3
            have hM4 : Mod (fun _ => False) W4 w4 := hM3.grown hg3 (fun k hk hk' => hrow2 k hk hk')
            have HE := Lib.hid (refp_store1 HP4.out hM4 ho3)
            obtain ⟨A3, c3, rfl, _, _⟩ := own_form ho3
            refine hK.out _ _ (KS.out _ hM4) (fun hHeld => ?_)
            clear hK K
            try simp only [Act.put, List.getElem_toArray, List.getElem_cons_succ, List.getElem_cons_zero, List.setIfInBounds_toArray, List.set_cons_zero, List.set_cons_succ]
            refine wpAnyH_take (i := 18) (v := ?_) rfl (by kernel_rfl) (by kernel_rfl) (by kernel_rfl) (fun _ _ _ h => h) (Or.inl ⟨by rfl, ?_⟩) (by assumption) ?_
            rotate_left 1
            · intro w' hSw; (try dsimp only at hSw); go_simp; first | done | (with_reducible rfl)
            try simp only [Act.put, List.getElem_toArray, List.getElem_cons_succ, List.getElem_cons_zero, List.setIfInBounds_toArray, List.set_cons_zero, List.set_cons_succ]
            refine wpAnyH_take (i := 19) (v := ?_) rfl (by kernel_rfl) (by kernel_rfl) (by kernel_rfl) (fun _ _ _ h => h) (Or.inl ⟨by rfl, ?_⟩) (by assumption) ?_
            rotate_left 1
            · intro w' hSw; (try dsimp only at hSw); go_simp; first | done | (with_reducible rfl)
            try simp only [Act.put, List.getElem_toArray, List.getElem_cons_succ, List.getElem_cons_zero, List.setIfInBounds_toArray, List.set_cons_zero, List.set_cons_succ]
            refine wpAnyH_done (by kernel_rfl) ?_ _
            have hkc := KS.out _ hM4
            refine atEnd_normal ?_
            refine wpOp_step rfl (fun K' hK => ?_)
            go_simp
            exact hK _ _ ⟨⟨_, HE.out⟩, _, _, _, _, _, _, _, _, _, _, _, _, _, _, _, _, _, _, _, _, _, _, _, _, _, _, _, _, _, _, _, _, _, _, _, _, _, _, _, _, _, _, _, _, _, _, _, _, _, _, _, _, _, _, _, _, _, _, _, _, _, _, _, _, _, _, _, _, _, _, _, _, _, rfl⟩
        · go_simp
          refine hK.out _ _ (KS.out _ M2) (fun hHeld => ?_)
          clear hK K
          try simp only [Act.put, List.getElem_toArray, List.getElem_cons_succ, List.getElem_cons_zero, List.setIfInBounds_toArray, List.set_cons_zero, List.set_cons_succ]
          refine wpAnyH_ready (rs := [1]) (by kernel_rfl) (by simp) ?_
          refine AllReadyH.cons rfl (fun K hK => ?_) AllReadyH.nil
          go_simp
          refine hK.out _ _ (KS.out _ M21) (fun hHeld => ?_)
          clear hK K
          try simp only [Act.put, List.getElem_toArray, List.getElem_cons_succ, List.getElem_cons_zero, List.setIfInBounds_toArray, List.set_cons_zero, List.set_cons_succ]
          refine wpAnyH_ready (rs := [8]) (by kernel_rfl) (by simp) ?_
          refine AllReadyH.cons rfl (fun K hK => ?_) AllReadyH.nil
          refine step_append_any _ rfl (.tmp 60) (.tmp 66) 30 rfl base 4 i4 _ 1 1 Try.underlying30 hi4 hz4 hs4 hb4 rfl h01 (.slice (some ⟨W4.heap.size + 1, 0, none⟩) 0 0) 0 [] rfl HO2.out W4.heap.size AH i ch _ rfl (HR1.out.mod M21) HPT.out hm63 hu1 hbs4 ?_
          intro v1 w2 ho1 hg1 hv1
          rw [Nat.zero_add, List.nil_append] at ho1
          have hM2 : Mod (fun _ => False) W4 w2 := M21.grown hg1 (fun k hk hk' => by simp [Value.ownBlock] at hk; omega)
          have hz2 := hM2.size
          have hbs5 : base ≤ w2.heap.size := by omega
          have hrow : ∀ k, v1.ownBlock = some k → k < W4.heap.size → False := fun k hk hk' => by rcases hv1 with h | h <;> rw [h] at hk <;> simp [Value.ownBlock] at hk <;> omega
          refine hK.out _ _ (KS.out _ hM2) (fun hHeld => ?_)
          clear hK K
          try simp only [Act.put, List.getElem_toArray, List.getElem_cons_succ, List.getElem_cons_zero, List.setIfInBounds_toArray, List.set_cons_zero, List.set_cons_succ]
          have HN : Hid (Reads w2 w2.heap.size 1 (some ⟨W4.heap.size, 0, none⟩) 1 [.bool false]) := Lib.hid (reads_block (grown_block_of hg1 HS2.out (by simp [Value.ownBlock])) rfl)
          refine wpAnyH_ready (rs := [10]) (by kernel_rfl) (by simp) ?_
          refine AllReadyH.cons rfl (fun K hK => ?_) AllReadyH.nil
          refine step_append_any _ rfl (.tmp 67) (.tmp 68) 30 rfl base 4 i4 _ 1 1 Try.underlying30 hi4 hz4 hs4 hb4 rfl h01 v1 i _ rfl ho1 w2.heap.size (some ⟨W4.heap.size, 0, none⟩) 1 1 _ rfl HN.out hone hm64 hu2 hbs5 ?_
          intro v2 w3 ho2 hg2 hv2
          have hM3 : Mod (fun _ => False) W4 w3 := hM2.grown hg2 (fun k hk hk' => hrow k hk hk')
          have hz3' := hM3.size
          have hbs7 : base ≤ w3.heap.size := by omega
          have hrow2 : ∀ k, v2.ownBlock = some k → k < W4.heap.size → False := fun k hk hk' => by
            rcases hv2 with h | h <;> rw [h] at hk
            · exact hrow k hk hk'
            · simp at hk; omega
          refine hK.out _ _ (KS.out _ hM3) (fun hHeld => ?_)
          clear hK K
          try simp only [Act.put, List.getElem_toArray, List.getElem_cons_succ, List.getElem_cons_zero, List.setIfInBounds_toArray, List.set_cons_zero, List.set_cons_succ]
          refine wpAnyH_ready (rs := [17]) (by kernel_rfl) (by simp) ?_
          refine AllReadyH.cons rfl (fun K hK => ?_) AllReadyH.nil
          refine step_append_any _ rfl (.tmp 69) (.tmp 75) 30 rfl base 4 i4 _ 1 1 Try.underlying30 hi4 hz4 hs4 hb4 rfl h01 v2 (i + 1) _ rfl ho2 W4.heap.size (if ch = i then AH else AH.map (·.add (i))) (es.length - i) (ch - i) _ rfl (HR2.out.mod hM3) HPC.out hm65 hu3 hbs7 ?_
          intro v3 w4 ho3 hg3 hv3
          have hM4 : Mod (fun _ => False) W4 w4 := hM3.grown hg3 (fun k hk hk' => hrow2 k hk hk')
          have HE := Lib.hid (refp_store1 HP4.out hM4 ho3)
          obtain ⟨A3, c3, rfl, _, _⟩ := own_form ho3
          refine hK.out _ _ (KS.out _ hM4) (fun hHeld => ?_)
          clear hK K
          try simp only [Act.put, List.getElem_toArray, List.getElem_cons_succ, List.getElem_cons_zero, List.setIfInBounds_toArray, List.set_cons_zero, List.set_cons_succ]
          refine wpAnyH_take (i := 18) (v := ?_) rfl (by kernel_rfl) (by kernel_rfl) (by kernel_rfl) (fun _ _ _ h => h) (Or.inl ⟨by rfl, ?_⟩) (by assumption) ?_
          rotate_left 1
          · intro w' hSw; (try dsimp only at hSw); go_simp; first | done | (with_reducible rfl)
          try simp only [Act.put, List.getElem_toArray, List.getElem_cons_succ, List.getElem_cons_zero, List.setIfInBounds_toArray, List.set_cons_zero, List.set_cons_succ]
          refine wpAnyH_take (i := 19) (v := ?_) rfl (by kernel_rfl) (by kernel_rfl) (by kernel_rfl) (fun _ _ _ h => h) (Or.inl ⟨by rfl, ?_⟩) (by assumption) ?_
          rotate_left 1
          · intro w' hSw; (try dsimp only at hSw); go_simp; first | done | (with_reducible rfl)
          try simp only [Act.put, List.getElem_toArray, List.getElem_cons_succ, List.getElem_cons_zero, List.setIfInBounds_toArray, List.set_cons_zero, List.set_cons_succ]
          refine wpAnyH_done (by kernel_rfl) ?_ _
          have hkc := KS.out _ hM4
          refine atEnd_normal ?_
          refine wpOp_step rfl (fun K' hK => ?_)
          go_simp
          exact hK _ _ ⟨⟨_, HE.out⟩, _, _, _, _, _, _, _, _, _, _, _, _, _, _, _, _, _, _, _, _, _, _, _, _, _, _, _, _, _, _, _, _, _, _, _, _, _, _, _, _, _, _, _, _, _, _, _, _, _, _, _, _, _, _, _, _, _, _, _, _, _, _, _, _, _, _, _, _, _, _, _, _, _, rfl⟩
    · have hone : ∀ u ∈ ([.int .u64 a, .int .u64 n, .int .u64 al] : List Value), u.oneCell' = true := by intro u hu; simp at hu; rcases hu with rfl | rfl | rfl <;> rfl
      have keepS : ∀ w', Mod (fun _ => False) W3 w' → w'.cell? ⟨q, 0, none⟩ = some (.slice A es.length c) ∧ w'.frozen? ⟨q, 0, none⟩ = false ∧ w'.cell? ⟨w.heap.size, 0, none⟩ = some (.int .u64 a) ∧ w'.cell? ⟨w.heap.size, 1, none⟩ = some (.int .u64 n) ∧ w'.cell? ⟨w.heap.size, 2, none⟩ = some (.int .u64 al) := fun w' hm => ⟨(hm.far hqW).1.trans hq0, (hm.far hqW).2.trans hqf, (hm.far hbW).1.trans hbx0, (hm.far hbW).1.trans hbx1, (hm.far hbW).1.trans hbx2⟩
      have KS := Lib.hid keepS
      clear keepS
      have M0 : Mod (fun _ => False) W3 W3.drew := (Mod.refl _ _).drew
      have M1 : Mod (fun _ => False) W3 (W3.alloc (.cells #[] 35)).drew := ((Mod.refl (fun _ => False) W3).alloc _).drew
      have M2 : Mod (fun _ => False) W3 (W3.alloc (.cells #[.int .u64 a, .int .u64 n, .int .u64 al] 35)).drew := ((Mod.refl (fun _ => False) W3).alloc _).drew
      have M12 : Mod (fun _ => False) W3 ((W3.alloc (.cells #[] 35)).alloc (.cells #[.int .u64 a, .int .u64 n, .int .u64 al] 35)).drew := (((Mod.refl (fun _ => False) W3).alloc _).alloc _).drew
      have M21 : Mod (fun _ => False) W3 ((W3.alloc (.cells #[.int .u64 a, .int .u64 n, .int .u64 al] 35)).alloc (.cells #[] 35)).drew := (((Mod.refl (fun _ => False) W3).alloc _).alloc _).drew
      have HR1 := Lib.hid (own_prefix_any HP3.out.2.2.1 (k := i) hi)
      have HR2 := Lib.hid (Reads.cut (Reads.of_own HP3.out.2.2.1) (k := i) (cap := c) hi hnc)
      have HO1 : Hid (((W3.alloc (.cells #[] 35)).alloc (.cells #[.int .u64 a, .int .u64 n, .int .u64 al] 35)).drew.ownsRow base 35 3 (.slice (some ⟨W3.heap.size, 0, none⟩) 0 0) 0 []) := Lib.hid (own_mod (S := fun _ => False) (own_fresh hbW0) (((Mod.refl (fun _ => False) (W3.alloc (.cells #[] 35))).alloc (.cells #[.int .u64 a, .int .u64 n, .int .u64 al] 35)).drew) (fun _ _ h => h))
      have HO2 : Hid (((W3.alloc (.cells #[.int .u64 a, .int .u64 n, .int .u64 al] 35)).alloc (.cells #[] 35)).drew.ownsRow base 35 3 (.slice (some ⟨W3.heap.size + 1, 0, none⟩) 0 0) 0 []) := Lib.hid (by have h := own_fresh (w := W3.alloc (.cells #[.int .u64 a, .int .u64 n, .int .u64 al] 35)) (base := base) (e := 35) (size := 3) (by simp; omega); rw [World.size_alloc] at h; exact h)
      have HO3 : Hid ((W3.alloc (.cells #[] 35)).drew.ownsRow base 35 3 (.slice (some ⟨W3.heap.size, 0, none⟩) 0 0) 0 []) := Lib.hid (own_fresh hbW0)
      have hbs1 : base ≤ (W3.alloc (.cells #[] 35)).drew.heap.size := by simp; omega
      have hbs3 : base ≤ ((W3.alloc (.cells #[] 35)).alloc (.cells #[.int .u64 a, .int .u64 n, .int .u64 al] 35)).drew.heap.size := by simp; omega
      have hbs4 : base ≤ ((W3.alloc (.cells #[.int .u64 a, .int .u64 n, .int .u64 al] 35)).alloc (.cells #[] 35)).drew.heap.size := by simp; omega
      have HS1 : Hid (((W3.alloc (.cells #[] 35)).alloc (.cells #[.int .u64 a, .int .u64 n, .int .u64 al] 35)).drew.heap[W3.heap.size + 1]? = some (.cells #[.int .u64 a, .int .u64 n, .int .u64 al] 35 (0, 0))) := Lib.hid (by have h := heap_alloc_new (W3.alloc (.cells #[] 35)) (.cells #[.int .u64 a, .int .u64 n, .int .u64 al] 35); rw [World.size_alloc] at h; exact h)
      have HS2 : Hid (((W3.alloc (.cells #[.int .u64 a, .int .u64 n, .int .u64 al] 35)).alloc (.cells #[] 35)).drew.heap[W3.heap.size]? = some (.cells #[.int .u64 a, .int .u64 n, .int .u64 al] 35 (0, 0))) := Lib.hid (by have h := Below.heap_alloc (W3.alloc (.cells #[.int .u64 a, .int .u64 n, .int .u64 al] 35)) (.cells #[] 35) W3.heap.size (by simp); exact h.trans (heap_alloc_new W3 _))
      refine wp_region_last (l := 21) (L := #[false, false, false, false, false, false, false, false, false, false, false, false, false, false, false, false, false, false, false, false, false, true]) (S := fun w' => w'.cell? ⟨q, 0, none⟩ = some (.slice A es.length c) ∧ w'.frozen? ⟨q, 0, none⟩ = false ∧ w'.cell? ⟨w.heap.size, 0, none⟩ = some (.int .u64 a) ∧ w'.cell? ⟨w.heap.size, 1, none⟩ = some (.int .u64 n) ∧ w'.cell? ⟨w.heap.size, 2, none⟩ = some (.int .u64 al)) (by kernel_rfl) (by kernel_rfl) (by kernel_rfl) (by kernel_rfl) (KS.out _ M0) (fun hHeld => ?_)
      refine wpAnyH_take (i := 0) (v := ?_) rfl (by kernel_rfl) (by kernel_rfl) (by kernel_rfl) (fun _ _ _ h => h) (Or.inl ⟨by rfl, ?_⟩) (by assumption) ?_
      rotate_left 1
      · intro w' hSw; (try dsimp only at hSw); go_simp; first | done | (with_reducible rfl)
      try simp only [Act.put, List.getElem_toArray, List.getElem_cons_succ, List.getElem_cons_zero, List.setIfInBounds_toArray, List.set_cons_zero, List.set_cons_succ]
      refine wpAnyH_take (i := 2) (v := ?_) rfl (by kernel_rfl) (by kernel_rfl) (by kernel_rfl) (fun _ _ _ h => h) (Or.inl ⟨by rfl, ?_⟩) (by assumption) ?_
      rotate_left 1
      · intro w' hSw; (try dsimp only at hSw); go_simp; first | done | (with_reducible rfl)
      try simp only [Act.put, List.getElem_toArray, List.getElem_cons_succ, List.getElem_cons_zero, List.setIfInBounds_toArray, List.set_cons_zero, List.set_cons_succ]
      refine wpAnyH_take (i := 3) (v := ?_) rfl (by kernel_rfl) (by kernel_rfl) (by kernel_rfl) (fun _ _ _ h => h) (Or.inl ⟨by rfl, ?_⟩) (by assumption) ?_
      rotate_left 1
      · intro w' hSw; (try dsimp only at hSw); go_simp; first | done | (with_reducible rfl)
      try simp only [Act.put, List.getElem_toArray, List.getElem_cons_succ, List.getElem_cons_zero, List.setIfInBounds_toArray, List.set_cons_zero, List.set_cons_succ]
      refine wpAnyH_take (i := 4) (v := ?_) rfl (by kernel_rfl) (by kernel_rfl) (by kernel_rfl) (fun _ _ _ h => h) (Or.inl ⟨by rfl, ?_⟩) (by assumption) ?_
      rotate_left 1
      · intro w' hSw; (try dsimp only at hSw); go_simp; first | done | (with_reducible rfl)
      try simp only [Act.put, List.getElem_toArray, List.getElem_cons_succ, List.getElem_cons_zero, List.setIfInBounds_toArray, List.set_cons_zero, List.set_cons_succ]
      refine wpAnyH_take (i := 5) (v := ?_) rfl (by kernel_rfl) (by kernel_rfl) (by kernel_rfl) (fun _ _ _ h => h) (Or.inl ⟨by rfl, ?_⟩) (by assumption) ?_
      rotate_left 1
      · intro w' hSw; (try dsimp only at hSw); go_simp; first | done | (with_reducible rfl)
      try simp only [Act.put, List.getElem_toArray, List.getElem_cons_succ, List.getElem_cons_zero, List.setIfInBounds_toArray, List.set_cons_zero, List.set_cons_succ]
      refine wpAnyH_take (i := 6) (v := ?_) rfl (by kernel_rfl) (by kernel_rfl) (by kernel_rfl) (fun _ _ _ h => h) (Or.inl ⟨by rfl, ?_⟩) (by assumption) ?_
      rotate_left 1
      · intro w' hSw; (try dsimp only at hSw); go_simp; first | done | (with_reducible rfl)
      try simp only [Act.put, List.getElem_toArray, List.getElem_cons_succ, List.getElem_cons_zero, List.setIfInBounds_toArray, List.set_cons_zero, List.set_cons_succ]
      refine wpAnyH_take (i := 7) (v := ?_) rfl (by kernel_rfl) (by kernel_rfl) (by kernel_rfl) (fun _ _ _ h => h) (Or.inl ⟨by rfl, ?_⟩) (by assumption) ?_
      rotate_left 1
      · intro w' hSw; (try dsimp only at hSw); go_simp; first | done | (with_reducible rfl)
      try simp only [Act.put, List.getElem_toArray, List.getElem_cons_succ, List.getElem_cons_zero, List.setIfInBounds_toArray, List.set_cons_zero, List.set_cons_succ]
      refine wpAnyH_take (i := 9) (v := ?_) rfl (by kernel_rfl) (by kernel_rfl) (by kernel_rfl) (fun _ _ _ h => h) (Or.inl ⟨by rfl, ?_⟩) (by assumption) ?_
      rotate_left 1
      · intro w' hSw; (try dsimp only at hSw); go_simp; first | done | (with_reducible rfl)
      try simp only [Act.put, List.getElem_toArray, List.getElem_cons_succ, List.getElem_cons_zero, List.setIfInBounds_toArray, List.set_cons_zero, List.set_cons_succ]
      refine wpAnyH_take (i := 12) (v := ?_) rfl (by kernel_rfl) (by kernel_rfl) (by kernel_rfl) (fun _ _ _ h => h) (Or.inl ⟨by rfl, ?_⟩) (by assumption) ?_
      rotate_left 1
      · intro w' hSw; (try dsimp only at hSw); go_simp; first | done | (with_reducible rfl)
      try simp only [Act.put, List.getElem_toArray, List.getElem_cons_succ, List.getElem_cons_zero, List.setIfInBounds_toArray, List.set_cons_zero, List.set_cons_succ]
      refine wpAnyH_take (i := 13) (v := ?_) rfl (by kernel_rfl) (by kernel_rfl) (by kernel_rfl) (fun _ _ _ h => h) (Or.inl ⟨by rfl, ?_⟩) (by assumption) ?_
      rotate_left 1
      · intro w' hSw; (try dsimp only at hSw); go_simp; first | done | (with_reducible rfl)
      try simp only [Act.put, List.getElem_toArray, List.getElem_cons_succ, List.getElem_cons_zero, List.setIfInBounds_toArray, List.set_cons_zero, List.set_cons_succ]
      refine wpAnyH_take (i := 14) (v := ?_) rfl (by kernel_rfl) (by kernel_rfl) (by kernel_rfl) (fun _ _ _ h => h) (Or.inl ⟨by rfl, ?_⟩) (by assumption) ?_
      rotate_left 1
      · intro w' hSw; (try dsimp only at hSw); go_simp; first | done | (with_reducible rfl)
      try simp only [Act.put, List.getElem_toArray, List.getElem_cons_succ, List.getElem_cons_zero, List.setIfInBounds_toArray, List.set_cons_zero, List.set_cons_succ]
      refine wpAnyH_take (i := 15) (v := ?_) rfl (by kernel_rfl) (by kernel_rfl) (by kernel_rfl) (fun _ _ _ h => h) (Or.inl ⟨by rfl, ?_⟩) (by assumption) ?_
      rotate_left 1
      · intro w' hSw; (try dsimp only at hSw); go_simp; first | done | (with_reducible rfl)
      try simp only [Act.put, List.getElem_toArray, List.getElem_cons_succ, List.getElem_cons_zero, List.setIfInBounds_toArray, List.set_cons_zero, List.set_cons_succ]
      refine wpAnyH_take (i := 16) (v := ?_) rfl (by kernel_rfl) (by kernel_rfl) (by kernel_rfl) (fun _ _ _ h => h) (Or.inl ⟨by rfl, ?_⟩) (by assumption) ?_
      rotate_left 1
      · intro w' hSw; (try dsimp only at hSw); go_simp; first | done | (with_reducible rfl)
      try simp only [Act.put, List.getElem_toArray, List.getElem_cons_succ, List.getElem_cons_zero, List.setIfInBounds_toArray, List.set_cons_zero, List.set_cons_succ]
      refine wpAnyH_take (i := 17) (v := ?_) rfl (by kernel_rfl) (by kernel_rfl) (by kernel_rfl) (fun _ _ _ h => h) (Or.inl ⟨by rfl, ?_⟩) (by assumption) ?_
      rotate_left 1
      · intro w' hSw; (try dsimp only at hSw); go_simp; first | done | (with_reducible rfl)
      try simp only [Act.put, List.getElem_toArray, List.getElem_cons_succ, List.getElem_cons_zero, List.setIfInBounds_toArray, List.set_cons_zero, List.set_cons_succ]
      refine wpAnyH_ready (rs := [1, 10]) (by kernel_rfl) (by simp) ?_
      refine AllReadyH.cons rfl (fun K hK => ?_) (AllReadyH.cons rfl (fun K hK => ?_) AllReadyH.nil)
      · go_simp
        refine hK.out _ _ (KS.out _ M1) (fun hHeld => ?_)
        clear hK K
        try simp only [Act.put, List.getElem_toArray, List.getElem_cons_succ, List.getElem_cons_zero, List.setIfInBounds_toArray, List.set_cons_zero, List.set_cons_succ]
        refine wpAnyH_ready (rs := [8, 10]) (by kernel_rfl) (by simp) ?_
        refine AllReadyH.cons rfl (fun K hK => ?_) (AllReadyH.cons rfl (fun K hK => ?_) AllReadyH.nil)
        · refine step_append_any _ rfl (.tmp 39) (.tmp 45) 29 rfl base 35 i35 _ 3 24 Try.underlying29 hi35 hz35 hs35 hb35 rfl h03 (.slice (some ⟨W3.heap.size, 0, none⟩) 0 0) 0 [] rfl HO3.out W3.heap.size A i c _ rfl (HR1.out.mod M1) HOT.out hm63 ht1 hbs1 ?_
          intro v1 w2 ho1 hg1 hv1
          rw [Nat.zero_add, List.nil_append] at ho1
          have hM2 : Mod (fun _ => False) W3 w2 := M1.grown hg1 (fun k hk hk' => by simp [Value.ownBlock] at hk; omega)
          have hz2 := hM2.size
          have hbs5 : base ≤ w2.heap.size := by omega
          have hrow : ∀ k, v1.ownBlock = some k → k < W3.heap.size → False := fun k hk hk' => by rcases hv1 with h | h <;> rw [h] at hk <;> simp [Value.ownBlock] at hk <;> omega
          refine hK.out _ _ (KS.out _ hM2) (fun hHeld => ?_)
          clear hK K
          try simp only [Act.put, List.getElem_toArray, List.getElem_cons_succ, List.getElem_cons_zero, List.setIfInBounds_toArray, List.set_cons_zero, List.set_cons_succ]
          refine wpAnyH_ready (rs := [10]) (by kernel_rfl) (by simp) ?_
          refine AllReadyH.cons rfl (fun K hK => ?_) AllReadyH.nil
          go_simp
          refine hK.out _ _ (KS.out _ (hM2.alloc _)) (fun hHeld => ?_)
          clear hK K
          try simp only [Act.put, List.getElem_toArray, List.getElem_cons_succ, List.getElem_cons_zero, List.setIfInBounds_toArray, List.set_cons_zero, List.set_cons_succ]
          have HN : Hid (Reads (w2.alloc (.cells #[.int .u64 a, .int .u64 n, .int .u64 al] 35)) (w2.alloc (.cells #[.int .u64 a, .int .u64 n, .int .u64 al] 35)).heap.size 3 (some ⟨w2.heap.size, 0, none⟩) 1 [.int .u64 a, .int .u64 n, .int .u64 al]) := Lib.hid (reads_block (heap_alloc_new w2 _) rfl)
          have HOV := Lib.hid (own_mod (S := fun _ => False) ho1 ((Mod.refl _ _).alloc (.cells #[.int .u64 a, .int .u64 n, .int .u64 al] 35)) (fun _ _ h => h))
          have hM6 : Mod (fun _ => False) W3 (w2.alloc (.cells #[.int .u64 a, .int .u64 n, .int .u64 al] 35)) := hM2.alloc _
          have hbs6 : base ≤ (w2.alloc (.cells #[.int .u64 a, .int .u64 n, .int .u64 al] 35)).heap.size := by simp; omega
          refine wpAnyH_ready (rs := [11]) (by kernel_rfl) (by simp) ?_
          refine AllReadyH.cons rfl (fun K hK => ?_) AllReadyH.nil
          refine step_append_any _ rfl (.tmp 46) (.tmp 48) 29 rfl base 35 i35 _ 3 24 Try.underlying29 hi35 hz35 hs35 hb35 rfl h03 v1 i _ rfl HOV.out (w2.alloc (.cells #[.int .u64 a, .int .u64 n, .int .u64 al] 35)).heap.size (some ⟨w2.heap.size, 0, none⟩) 1 1 _ rfl HN.out hone hm64 ht2 hbs6 ?_
          intro v2 w3 ho2 hg2 hv2
          have hM3 : Mod (fun _ => False) W3 w3 := hM6.grown hg2 (fun k hk hk' => hrow k hk hk')
          have hz3' := hM3.size
          have hbs7 : base ≤ w3.heap.size := by omega
          have hrow2 : ∀ k, v2.ownBlock = some k → k < W3.heap.size → False := fun k hk hk' => by
            rcases hv2 with h | h <;> rw [h] at hk
            · exact hrow k hk hk'
            · simp at hk; omega
          refine hK.out _ _ (KS.out _ hM3) (fun hHeld => ?_)
          clear hK K
          try simp only [Act.put, List.getElem_toArray, List.getElem_cons_succ, List.getElem_cons_zero, List.setIfInBounds_toArray, List.set_cons_zero, List.set_cons_succ]
          refine wpAnyH_ready (rs := [18]) (by kernel_rfl) (by simp) ?_
          refine AllReadyH.cons rfl (fun K hK => ?_) AllReadyH.nil
          refine step_append_any _ rfl (.tmp 49) (.tmp 55) 29 rfl base 35 i35 _ 3 24 Try.underlying29 hi35 hz35 hs35 hb35 rfl h03 v2 (i + 1) _ rfl ho2 W3.heap.size (if c = i then A else A.map (·.add (i * 3))) (es.length - i) (c - i) _ rfl (HR2.out.mod hM3) HOC.out hm65 ht3 hbs7 ?_
          intro v3 w4 ho3 hg3 hv3
          have hM4 : Mod (fun _ => False) W3 w4 := hM3.grown hg3 (fun k hk hk' => hrow2 k hk hk')
          have HE := Lib.hid (refp_store0 HP3.out hM4 ho3)
          obtain ⟨A3, c3, rfl, _, _⟩ := own_form ho3
          refine hK.out _ _ (KS.out _ hM4) (fun hHeld => ?_)
          clear hK K
          try simp only [Act.put, List.getElem_toArray, List.getElem_cons_succ, List.getElem_cons_zero, List.setIfInBounds_toArray, List.set_cons_zero, List.set_cons_succ]
          refine wpAnyH_take (i := 19) (v := ?_) rfl (by kernel_rfl) (by kernel_rfl) (by kernel_rfl) (fun _ _ _ h => h) (Or.inl ⟨by rfl, ?_⟩) (by assumption) ?_
          rotate_left 1
          · intro w' hSw; (try dsimp only at hSw); go_simp; first | done | (with_reducible rfl)
          try simp only [Act.put, List.getElem_toArray, List.getElem_cons_succ, List.getElem_cons_zero, List.setIfInBounds_toArray, List.set_cons_zero, List.set_cons_succ]
          refine wpAnyH_take (i := 20) (v := ?_) rfl (by kernel_rfl) (by kernel_rfl) (by kernel_rfl) (fun _ _ _ h => h) (Or.inl ⟨by rfl, ?_⟩) (by assumption) ?_
          rotate_left 1
          · intro w' hSw; (try dsimp only at hSw); go_simp; first | done | (with_reducible rfl)
          try simp only [Act.put, List.getElem_toArray, List.getElem_cons_succ, List.getElem_cons_zero, List.setIfInBounds_toArray, List.set_cons_zero, List.set_cons_succ]
          refine wpAnyH_done (by kernel_rfl) ?_ _
          have hkc := KS.out _ hM4
          refine atEnd_normal ?_
          refine wpOp_step rfl (fun K' hK => ?_)
          go_simp
          exact hK _ _ ⟨⟨_, HE.out⟩, _, _, _, _, _, _, _, _, _, _, _, _, _, _, _, _, _, _, _, _, _, _, _, _, _, _, _, _, _, _, _, _, _, _, _, _, _, _, _, _, _, _, _, _, _, _, _, _, _, _, _, _, _, rfl⟩
        · go_simp
          refine hK.out _ _ (KS.out _ M12) (fun hHeld => ?_)
          clear hK K
          try simp only [Act.put, List.getElem_toArray, List.getElem_cons_succ, List.getElem_cons_zero, List.setIfInBounds_toArray, List.set_cons_zero, List.set_cons_succ]
          refine wpAnyH_ready (rs := [8]) (by kernel_rfl) (by simp) ?_
          refine AllReadyH.cons rfl (fun K hK => ?_) AllReadyH.nil
          refine step_append_any _ rfl (.tmp 39) (.tmp 45) 29 rfl base 35 i35 _ 3 24 Try.underlying29 hi35 hz35 hs35 hb35 rfl h03 (.slice (some ⟨W3.heap.size, 0, none⟩) 0 0) 0 [] rfl HO1.out W3.heap.size A i c _ rfl (HR1.out.mod M12) HOT.out hm63 ht1 hbs3 ?_
          intro v1 w2 ho1 hg1 hv1
          rw [Nat.zero_add, List.nil_append] at ho1
          have hM2 : Mod (fun _ => False) W3 w2 := M12.grown hg1 (fun k hk hk' => by simp [Value.ownBlock] at hk; omega)
          have hz2 := hM2.size
          have hbs5 : base ≤ w2.heap.size := by omega
          have hrow : ∀ k, v1.ownBlock = some k → k < W3.heap.size → False := fun k hk hk' => by rcases hv1 with h | h <;> rw [h] at hk <;> simp [Value.ownBlock] at hk <;> omega
          refine hK.out _ _ (KS.out _ hM2) (fun hHeld => ?_)
          clear hK K
          try simp only [Act.put, List.getElem_toArray, List.getElem_cons_succ, List.getElem_cons_zero, List.setIfInBounds_toArray, List.set_cons_zero, List.set_cons_succ]
          have HN : Hid (Reads w2 w2.heap.size 3 (some ⟨W3.heap.size + 1, 0, none⟩) 1 [.int .u64 a, .int .u64 n, .int .u64 al]) := Lib.hid (reads_block (grown_block_of hg1 HS1.out (by simp [Value.ownBlock])) rfl)
          refine wpAnyH_ready (rs := [11]) (by kernel_rfl) (by simp) ?_
          refine AllReadyH.cons rfl (fun K hK => ?_) AllReadyH.nil
          refine step_append_any _ rfl (.tmp 46) (.tmp 48) 29 rfl base 35 i35 _ 3 24 Try.underlying29 hi35 hz35 hs35 hb35 rfl h03 v1 i _ rfl ho1 w2.heap.size (some ⟨W3.heap.size + 1, 0, none⟩) 1 1 _ rfl HN.out hone hm64 ht2 hbs5 ?_
          intro v2 w3 ho2 hg2 hv2
          have hM3 : Mod (fun _ => False) W3 w3 := hM2.grown hg2 (fun k hk hk' => hrow k hk hk')
          have hz3' := hM3.size
          have hbs7 : base ≤ w3.heap.size := by omega
          have hrow2 : ∀ k, v2.ownBlock = some k → k < W3.heap.size → False := fun k hk hk' => by
            rcases hv2 with h | h <;> rw [h] at hk
            · exact hrow k hk hk'
            · simp at hk; omega
          refine hK.out _ _ (KS.out _ hM3) (fun hHeld => ?_)
          clear hK K
          try simp only [Act.put, List.getElem_toArray, List.getElem_cons_succ, List.getElem_cons_zero, List.setIfInBounds_toArray, List.set_cons_zero, List.set_cons_succ]
          refine wpAnyH_ready (rs := [18]) (by kernel_rfl) (by simp) ?_
          refine AllReadyH.cons rfl (fun K hK => ?_) AllReadyH.nil
          refine step_append_any _ rfl (.tmp 49) (.tmp 55) 29 rfl base 35 i35 _ 3 24 Try.underlying29 hi35 hz35 hs35 hb35 rfl h03 v2 (i + 1) _ rfl ho2 W3.heap.size (if c = i then A else A.map (·.add (i * 3))) (es.length - i) (c - i) _ rfl (HR2.out.mod hM3) HOC.out hm65 ht3 hbs7 ?_
          intro v3 w4 ho3 hg3 hv3
          have hM4 : Mod (fun _ => False) W3 w4 := hM3.grown hg3 (fun k hk hk' => hrow2 k hk hk')
          have HE := Lib.hid (refp_store0 HP3.out hM4 ho3)
          obtain ⟨A3, c3, rfl, _, _⟩ := own_form ho3
          refine hK.out _ _ (KS.out _ hM4) (fun hHeld => ?_)
          clear hK K
          try simp only [Act.put, List.getElem_toArray, List.getElem_cons_succ, List.getElem_cons_zero, List.setIfInBounds_toArray, List.set_cons_zero, List.set_cons_succ]
          refine wpAnyH_take (i := 19) (v := ?_) rfl (by kernel_rfl) (by kernel_rfl) (by kernel_rfl) (fun _ _ _ h => h) (Or.inl ⟨by rfl, ?_⟩) (by assumption) ?_
          rotate_left 1
          · intro w' hSw; (try dsimp only at hSw); go_simp; first | done | (with_reducible rfl)
          try simp only [Act.put, List.getElem_toArray, List.getElem_cons_succ, List.getElem_cons_zero, List.setIfInBounds_toArray, List.set_cons_zero, List.set_cons_succ]
          refine wpAnyH_take (i := 20) (v := ?_) rfl (by kernel_rfl) (by kernel_rfl) (by kernel_rfl) (fun _ _ _ h => h) (Or.inl ⟨by rfl, ?_⟩) (by assumption) ?_
          rotate_left 1
          · intro w' hSw; (try dsimp only at hSw); go_simp; first | done | (with_reducible rfl)
          try simp only [Act.put, List.getElem_toArray, List.getElem_cons_succ, List.getElem_cons_zero, List.setIfInBounds_toArray, List.set_cons_zero, List.set_cons_succ]
          refine wpAnyH_done (by kernel_rfl) ?_ _
          have hkc := KS.out _ hM4
          refine atEnd_normal ?_
          refine wpOp_step rfl (fun K' hK => ?_)
          go_simp
          exact hK _ _ ⟨⟨_, HE.out⟩, _, _, _, _, _, _, _, _, _, _, _, _, _, _, _, _, _, _, _, _, _, _, _, _, _, _, _, _, _, _, _, _, _, _, _, _, _, _, _, _, _, _, _, _, _, _, _, _, _, _, _, _, _, rfl⟩
      · go_simp
        refine hK.out _ _ (KS.out _ M2) (fun hHeld => ?_)
        clear hK K
        try simp only [Act.put, List.getElem_toArray, List.getElem_cons_succ, List.getElem_cons_zero, List.setIfInBounds_toArray, List.set_cons_zero, List.set_cons_succ]
        refine wpAnyH_ready (rs := [1]) (by kernel_rfl) (by simp) ?_
        refine AllReadyH.cons rfl (fun K hK => ?_) AllReadyH.nil
        go_simp
        refine hK.out _ _ (KS.out _ M21) (fun hHeld => ?_)
        clear hK K
        try simp only [Act.put, List.getElem_toArray, List.getElem_cons_succ, List.getElem_cons_zero, List.setIfInBounds_toArray, List.set_cons_zero, List.set_cons_succ]
        refine wpAnyH_ready (rs := [8]) (by kernel_rfl) (by simp) ?_
        refine AllReadyH.cons rfl (fun K hK => ?_) AllReadyH.nil
        refine step_append_any _ rfl (.tmp 39) (.tmp 45) 29 rfl base 35 i35 _ 3 24 Try.underlying29 hi35 hz35 hs35 hb35 rfl h03 (.slice (some ⟨W3.heap.size + 1, 0, none⟩) 0 0) 0 [] rfl HO2.out W3.heap.size A i c _ rfl (HR1.out.mod M21) HOT.out hm63 ht1 hbs4 ?_
        intro v1 w2 ho1 hg1 hv1
        rw [Nat.zero_add, List.nil_append] at ho1
        have hM2 : Mod (fun _ => False) W3 w2 := M21.grown hg1 (fun k hk hk' => by simp [Value.ownBlock] at hk; omega)
        have hz2 := hM2.size
        have hbs5 : base ≤ w2.heap.size := by omega
        have hrow : ∀ k, v1.ownBlock = some k → k < W3.heap.size → False := fun k hk hk' => by rcases hv1 with h | h <;> rw [h] at hk <;> simp [Value.ownBlock] at hk <;> omega
        refine hK.out _ _ (KS.out _ hM2) (fun hHeld => ?_)
        clear hK K
        try simp only [Act.put, List.getElem_toArray, List.getElem_cons_succ, List.getElem_cons_zero, List.setIfInBounds_toArray, List.set_cons_zero, List.set_cons_succ]
        have HN : Hid (Reads w2 w2.heap.size 3 (some ⟨W3.heap.size, 0, none⟩) 1 [.int .u64 a, .int .u64 n, .int .u64 al]) := Lib.hid (reads_block (grown_block_of hg1 HS2.out (by simp [Value.ownBlock])) rfl)
        refine wpAnyH_ready (rs := [11]) (by kernel_rfl) (by simp) ?_
        refine AllReadyH.cons rfl (fun K hK => ?_) AllReadyH.nil
        refine step_append_any _ rfl (.tmp 46) (.tmp 48) 29 rfl base 35 i35 _ 3 24 Try.underlying29 hi35 hz35 hs35 hb35 rfl h03 v1 i _ rfl ho1 w2.heap.size (some ⟨W3.heap.size, 0, none⟩) 1 1 _ rfl HN.out hone hm64 ht2 hbs5 ?_
        intro v2 w3 ho2 hg2 hv2
        have hM3 : Mod (fun _ => False) W3 w3 := hM2.grown hg2 (fun k hk hk' => hrow k hk hk')
        have hz3' := hM3.size
        have hbs7 : base ≤ w3.heap.size := by omega
        have hrow2 : ∀ k, v2.ownBlock = some k → k < W3.heap.size → False := fun k hk hk' => by
          rcases hv2 with h | h <;> rw [h] at hk
          · exact hrow k hk hk'
          · simp at hk; omega
        refine hK.out _ _ (KS.out _ hM3) (fun hHeld => ?_)
        clear hK K
        try simp only [Act.put, List.getElem_toArray, List.getElem_cons_succ, List.getElem_cons_zero, List.setIfInBounds_toArray, List.set_cons_zero, List.set_cons_succ]
        refine wpAnyH_ready (rs := [18]) (by kernel_rfl) (by simp) ?_
        refine AllReadyH.cons rfl (fun K hK => ?_) AllReadyH.nil
        refine step_append_any _ rfl (.tmp 49) (.tmp 55) 29 rfl base 35 i35 _ 3 24 Try.underlying29 hi35 hz35 hs35 hb35 rfl h03 v2 (i + 1) _ rfl ho2 W3.heap.size (if c = i then A else A.map (·.add (i * 3))) (es.length - i) (c - i) _ rfl (HR2.out.mod hM3) HOC.out hm65 ht3 hbs7 ?_
        intro v3 w4 ho3 hg3 hv3
        have hM4 : Mod (fun _ => False) W3 w4 := hM3.grown hg3 (fun k hk hk' => hrow2 k hk hk')
        have HE := Lib.hid (refp_store0 HP3.out hM4 ho3)
        obtain ⟨A3, c3, rfl, _, _⟩ := own_form ho3
        refine hK.out _ _ (KS.out _ hM4) (fun hHeld => ?_)
        clear hK K
        try simp only [Act.put, List.getElem_toArray, List.getElem_cons_succ, List.getElem_cons_zero, List.setIfInBounds_toArray, List.set_cons_zero, List.set_cons_succ]
        refine wpAnyH_take (i := 19) (v := ?_) rfl (by kernel_rfl) (by kernel_rfl) (by kernel_rfl) (fun _ _ _ h => h) (Or.inl ⟨by rfl, ?_⟩) (by assumption) ?_
        rotate_left 1
        · intro w' hSw; (try dsimp only at hSw); go_simp; first | done | (with_reducible rfl)
        try simp only [Act.put, List.getElem_toArray, List.getElem_cons_succ, List.getElem_cons_zero, List.setIfInBounds_toArray, List.set_cons_zero, List.set_cons_succ]
        refine wpAnyH_take (i := 20) (v := ?_) rfl (by kernel_rfl) (by kernel_rfl) (by kernel_rfl) (fun _ _ _ h => h) (Or.inl ⟨by rfl, ?_⟩) (by assumption) ?_
        rotate_left 1
        · intro w' hSw; (try dsimp only at hSw); go_simp; first | done | (with_reducible rfl)
        try simp only [Act.put, List.getElem_toArray, List.getElem_cons_succ, List.getElem_cons_zero, List.setIfInBounds_toArray, List.set_cons_zero, List.set_cons_succ]
        refine wpAnyH_done (by kernel_rfl) ?_ _
        have hkc := KS.out _ hM4
        refine atEnd_normal ?_
        refine wpOp_step rfl (fun K' hK => ?_)
        go_simp
        exact hK _ _ ⟨⟨_, HE.out⟩, _, _, _, _, _, _, _, _, _, _, _, _, _, _, _, _, _, _, _, _, _, _, _, _, _, _, _, _, _, _, _, _, _, _, _, _, _, _, _, _, _, _, _, _, _, _, _, _, _, _, _, _, _, rfl⟩
  · go_loopw [5] (fun i wr => ∃ k : Nat, k ≤ es.length ∧ i = .int .i64 k ∧ Below W2.heap.size W2 wr ∧ ∀ (j : Nat) (e : Ent), es[j]? = some e → j < k → e.a < a) (fun i _ => es.length - (intOf i).toNat)
    case atStart => exact ⟨0, Nat.zero_le _, rfl, Below.refl _ _, fun j _ _ h => by omega⟩
    case round =>
      obtain ⟨k, hk, rfl, hB, hno⟩ := hrel
      have HNO := Lib.hid hno
      have hq0 := (HRW.out.below hB (Nat.le_refl _)).cell0
      have hxr : wr.cell? ⟨w.heap.size, 0, none⟩ = some (.int .u64 a) := by rw [hB.cell (p := ⟨w.heap.size, 0, none⟩) hz2, hx2]; simp
      clear hno
      by_cases hlt : k < es.length
      · obtain ⟨e, he⟩ : ∃ e, es[k]? = some e := ⟨es[k], by simp [hlt]⟩
        obtain ⟨g, rfl, hg, h0, h1, h2⟩ := (HRW.out.below hB (Nat.le_refl _)).at he
        have hki : (k : Int) < es.length := by omega
        have hkd : decide ((k : Int) < es.length) = true := by simpa using hlt
        have HE := Lib.hid he
        clear he
        by_cases g1 : e.a < a
        · have hg1 : decide (e.a < a) = true := by simpa using g1
          go_wp2
          go_quiet (fail)
          go_wp2
          go_roundw
          case rel =>
            refine ⟨k + 1, by omega, by go_num, by first | exact hB | exact below_drewN hB, fun j x hx hj => ?_⟩
            by_cases hjk : j = k
            · subst hjk; have := HE.out; rw [hx] at this; cases this; exact g1
            · exact HNO.out j x hx (by omega)
          case measure => simp [intOf]; omega
        · have hg1 : decide (e.a < a) = false := by simpa using g1
          have hlb : lb es a = k := lb_eq (by omega) HNO.out (fun x hx => by have := HE.out; rw [hx] at this; cases this; omega)
          have HLB := Lib.hid hlb
          clear hlb
          go_wp2
          go_quiet (fail)
          go_wp2
          rw [HLB.out]
          exact ⟨by first | exact hB | exact below_drewN hB, _, _, _, _, _, _, _, _, _, _, _, _, _, _, _, _, _, _, _, _, _, _, _, _, _, _, _, _, _, _, _, _, rfl⟩
      · have hkd : decide ((k : Int) < es.length) = false := by simpa using hlt
        have hlb : lb es a = k := lb_eq (by omega) HNO.out (fun x hx => by have := (List.getElem?_eq_some_iff.1 hx).1; omega)
        have HLB := Lib.hid hlb
        clear hlb
        go_wp2
        go_quiet (fail)
        go_wp2
        rw [HLB.out]
        exact ⟨by first | exact hB | exact below_drewN hB, _, _, _, _, _, _, _, _, _, _, _, _, _, _, _, _, _, _, _, _, _, _, _, _, _, _, _, _, _, _, _, _, rfl⟩
end Go.Proofs.Ytgkloacfickeaaa
