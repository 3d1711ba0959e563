/- slices.Insert of one entry. -/
import Derived.Test.YtjcnaefgffnphaaDelete
import Derived.Deep.RegionLaw
namespace Go.Proofs.Ytjcnaefgffnphaa
open Go.RowKit
set_option linter.unusedVariables false

theorem size39 (w : World) : (sizeOf 39).run Try.prog w = .ok 2 w := by kernel_rfl

set_option maxHeartbeats 2000000 in
theorem insert_end (A : Option Addr) (n c base bv : Nat) (xs ys : List Value) (w : World) (hn : n ≤ 1000000) (hbase : base ≤ w.heap.size) (hown : w.ownsRow base 39 2 (.slice A n c) n xs)
    (hl : ys.length = 2) (h1 : ∀ u ∈ ys, u.oneCell' = true) (hbv : ∀ j u, ys[j]? = some u → w.cell? ((⟨bv, 0, none⟩ : Addr).add j) = some u) :
    Calls Try.prog 30 #[.slice A n c, .int .i64 n, .slice (some ⟨bv, 0, none⟩) 1 1] w fun r w' => ∃ v', r = .returned v' ∧ w'.ownsRow base 39 2 v' (n + 1) (xs ++ ys) ∧
      w.grownBy w' (Value.slice A n c).ownBlock ∧ (v'.ownBlock = (Value.slice A n c).ownBlock ∨ v'.ownBlock = some w.heap.size) := by
  obtain ⟨i0, hi0, hz0, hz1, hz2⟩ := info_parts info39
  obtain ⟨A', c', hv, hnc, hcm⟩ := own_form hown
  simp only [Value.slice.injEq] at hv
  obtain ⟨rfl, _, rfl⟩ := hv
  have HO := Lib.hid hown
  have hrd : Reads w (bv + 1) 2 (some ⟨bv, 0, none⟩) 1 ys := ⟨by omega, fun _ => ⟨⟨bv, 0, none⟩, rfl, by simp, hbv⟩⟩
  have HR := Lib.hid hrd
  have H1 := Lib.hid h1
  clear hown hbv h1 hrd
  have hnI : (n : Int) ≤ 1000000 := by omega
  by_cases hcn : c = n
  · subst hcn
    go_enter Try.func30, Try.ntmps30
    go_wp2_with (at_builtin; refine wpList_append_any _ rfl (.tmp 23) (.tmp 24) _ rfl base 39 i0 _ 2 16 Try.underlying36 hi0 hz0 hz1 hz2 rfl (by decide) (.slice A c c) c xs rfl HO.out (bv + 1) (some ⟨bv, 0, none⟩) 1 1 ys rfl HR.out H1.out (by unfold maxLen; omega) (by omega) hbase ?_; intro v1 w1 hown1 hg1 hat1; have HO1 := Lib.hid hown1; have HG1 := Lib.hid hg1; have HA1 := Lib.hid hat1; clear hown1 hg1 hat1)
    go_ret
    exact ⟨_, rfl, HO1.out, HG1.out, HA1.out⟩
  · go_enter Try.func30, Try.ntmps30
    go_wp2_with (at_builtin; refine wpList_append_any _ rfl (.tmp 23) (.tmp 24) _ rfl base 39 i0 _ 2 16 Try.underlying36 hi0 hz0 hz1 hz2 rfl (by decide) (.slice A n c) n xs rfl HO.out (bv + 1) (some ⟨bv, 0, none⟩) 1 1 ys rfl HR.out H1.out (by unfold maxLen; omega) (by omega) hbase ?_; intro v1 w1 hown1 hg1 hat1; have HO1 := Lib.hid hown1; have HG1 := Lib.hid hg1; have HA1 := Lib.hid hat1; clear hown1 hg1 hat1)
    go_ret
    exact ⟨_, rfl, HO1.out, HG1.out, HA1.out⟩

set_option maxRecDepth 100000 in
set_option maxHeartbeats 4000000 in
theorem insert_room (g n c base bv i : Nat) (xs ys : List Value) (w : World) (hn : n ≤ 1000000) (hown : w.ownsRow base 39 2 (.slice (some ⟨g, 0, none⟩) n c) n xs)
    (hl : ys.length = 2) (h1 : ∀ u ∈ ys, u.oneCell' = true) (hbv : w.heap[bv]? = some (.cells ys.toArray 39 (0, 0))) (hne : bv ≠ g) (hi : i < n) (hc : n + 1 ≤ c) (hx1 : ∀ u ∈ xs, u.oneCell' = true) :
    Calls Try.prog 30 #[.slice (some ⟨g, 0, none⟩) n c, .int .i64 i, .slice (some ⟨bv, 0, none⟩) 1 1] w fun r w' => r = .returned (.slice (some ⟨g, 0, none⟩) (n + 1) c) ∧
      w'.ownsRow base 39 2 (.slice (some ⟨g, 0, none⟩) (n + 1) c) (n + 1) (xs.take (i * 2) ++ ys ++ xs.drop (i * 2)) ∧ w.grownBy w' (some g) := by
  obtain ⟨i0, hi0, hz0, hz1, hz2⟩ := info_parts info39
  obtain ⟨cur, hg, hb, hnc, hcm, hcs, htk⟩ := own_block hown
  have hxl := hown.1
  unfold maxLen at hcm
  have HG := Lib.hid hg
  have HB := Lib.hid hbv
  have H1 := Lib.hid h1
  have HT := Lib.hid htk
  clear hown hg hbv h1 htk
  have hiI : (i : Int) < n := by omega
  have hiI2 : (i : Int) ≤ n := by omega
  have hnb : ((i : Int) == n) = false := by simp; omega
  have hci : ¬ c = i := by omega
  have hci1 : ¬ c = i + 1 := by omega
  have hcI : (n : Int) + 1 ≤ c := by omega
  have hov : ∀ lb cb, (callFunc 41 #[.slice (some ⟨bv, 0, none⟩) 1 1, .slice (some ⟨g, (i + 1) * 2, none⟩) lb cb]).run Try.prog w = .ok (.value (.bool false)) w := fun lb cb => by
    rw [run_callFunc_extern Try.func41 (by kernel_rfl) (by kernel_rfl) (by kernel_rfl) (e := Extern.SlicesOverlaps.overlaps #[36, 36] #[4]) (by kernel_rfl),
      Lib.run_overlaps_apart w 36 4 39 Try.underlying36 2 size39 ⟨bv, 0, none⟩ ⟨g, (i + 1) * 2, none⟩ 1 1 lb cb hne 39 39 2 (c * 2) (by simp [World.shape?, HB.out, hl]) (by simp [World.shape?, HG.out, hcs]) (by omega) (by simp [World.frozen?, HB.out]) (by simp [World.frozen?, HB.out])]
    rfl
  have hov1 := hov (n - i) (c - (i + 1))
  clear hov
  have hsrc1 : ∀ j u, (xs.drop (i * 2))[j]? = some u → w.drew.cell? ((⟨g, i * 2, none⟩ : Addr).add j) = some u := by
    refine cells_of_block (w := w.drew) (cur := cur) (t := 39) HG.out (fun j u hu => ?_)
    rw [List.getElem?_drop, ← HT.out, List.getElem?_take] at hu
    split at hu
    · exact hu
    · cases hu
  have HS1 := Lib.hid hsrc1
  have hzl : (xs.drop (i * 2)).length = (n - i) * 2 := by rw [List.length_drop, hxl]; omega
  have hone : ∀ u ∈ xs.drop (i * 2), u.oneCell' = true := fun u hu => hx1 u (List.mem_of_mem_drop hu)
  have HX1 := Lib.hid hone
  have hmin1 : Nat.min (n + 1 - i) (n - i) = n - i := Nat.min_eq_right (by omega)
  have HMIN := Lib.hid hmin1
  have hfit1 : (i + 1) * 2 + (xs.drop (i * 2)).length ≤ cur.size := by rw [hzl]; omega
  clear hmin1
  clear hsrc1 hone hx1
  obtain ⟨cur1, hcur1⟩ : ∃ cur1 : Array Value, cur1 = (cur.toList.take ((i + 1) * 2) ++ (xs.drop (i * 2) ++ cur.toList.drop ((i + 1) * 2 + (n - i) * 2))).toArray := ⟨_, rfl⟩
  obtain ⟨w1, hw1⟩ : ∃ w1, w1 = w.drew.setRow g cur1 := ⟨_, rfl⟩
  have hg1 : w1.heap[g]? = some (.cells cur1 39 (0, 0)) := by rw [hw1]; exact setRow_at (w := w.drew) HG.out
  have hb1 : w1.heap[bv]? = some (.cells ys.toArray 39 (0, 0)) := by rw [hw1, setRow_other w.drew g bv cur1 hne]; exact HB.out
  have hs1 : cur1.size = c * 2 := by rw [hcur1]; simp [hzl]; omega
  have hsrc2 : ∀ j u, ys[j]? = some u → w1.cell? ((⟨bv, 0, none⟩ : Addr).add j) = some u := cells_of_block hb1 (fun j u hu => by simpa using hu)
  have HC1 := Lib.hid hcur1
  have hmin2 : Nat.min 1 (n + 1 - i) = 1 := Nat.min_eq_left (by omega)
  have hl2 : ys.length = 1 * 2 := by omega
  have hfit2 : i * 2 + ys.length ≤ cur1.size := by omega
  have HW1 := Lib.hid hw1
  have HG1 := Lib.hid hg1
  have HS2 := Lib.hid hsrc2
  clear hcur1 hw1 hg1 hb1 hsrc2
  go_enter Try.func30, Try.ntmps30
  go_wp2
  have hwr : IntKind.i64.wrap ((i : Int) + 1) = (i : Int) + 1 := IntWalk.i64_in _ (by omega)
  have htn : ((i : Int) + 1).toNat = i + 1 := by omega
  have hw0 : (0 : Int) ≤ (i : Int) + 1 := by omega
  have hwn : (i : Int) + 1 ≤ (n : Int) + 1 := by omega
  have hin1 : (i : Int) ≤ (n : Int) + 1 := by omega
  have hin2 : i ≤ n + 1 := by omega
  go_region_law (refine step_copy_k rfl (.tmp 73) (.tmp 76) 36 36 rfl 39 i0 2 Try.underlying36 hi0 hz1 g ((i + 1) * 2) (n - i) (c - (i + 1)) ⟨g, i * 2, none⟩ (n + 1 - i) (c - i) (n - i) (by simp [Act.eval, Act.put]) (by simp [Act.eval, Act.put]) cur 39 HG.out (xs.drop (i * 2)) HMIN.out hzl HS1.out hfit1 HX1.out ?_)
  clear hwr htn hw0 hwn hin1 hin2
  rw [← HC1.out, ← HW1.out]
  obtain ⟨cur2, hcur2⟩ : ∃ cur2 : Array Value, cur2 = (cur1.toList.take (i * 2) ++ ys ++ cur1.toList.drop (i * 2 + ys.length)).toArray := ⟨_, rfl⟩
  obtain ⟨w2, hw2⟩ : ∃ w2, w2 = w1.setRow g cur2 := ⟨_, rfl⟩
  have hcp2 : ∀ ty, (Builtin.copy_ #[36, 36] ty #[.slice (some ⟨g, i * 2, none⟩) (n + 1 - i) (c - i), .slice (some ⟨bv, 0, none⟩) 1 1]).run Try.prog w1 = .ok (goInt 1) w2 := fun ty => by
    rw [hw2, hcur2]
    exact run_copy_k w1 36 36 ty 39 i0 2 g (i * 2) (n + 1 - i) (c - i) ⟨bv, 0, none⟩ 1 1 1 cur1 39 ys Try.underlying36 hi0 hz1 HG1.out hmin2 hl2 HS2.out hfit2 H1.out
  have fin : w2.ownsRow base 39 2 (.slice (some ⟨g, 0, none⟩) (n + 1) c) (n + 1) (xs.take (i * 2) ++ ys ++ xs.drop (i * 2)) ∧ w.grownBy w2 (some g) := by
    have hm : Mod (fun k => k = g) w w2 := by
      rw [hw2, HW1.out]
      exact setRow_mod (S := fun k => k = g) (setRow_mod (S := fun k => k = g) (w1 := w.drew) (Mod.refl _ w).drew (fun _ => rfl) _) (fun _ => rfl) _
    refine ⟨?_, hm.grownBy (fun k hk => by rw [hk])⟩
    have hsz2 : cur2.size = c * 2 := by rw [hcur2]; simp; omega
    have hxt : (xs.take (i * 2)).length = i * 2 := by rw [List.length_take, hxl]; omega
    refine own_of_block (by rw [hw2]; exact setRow_at HG1.out) hb hc (by unfold maxLen; omega) hsz2 (by simp [hxt, hzl, hl]; omega) ?_
    have := inserted_row (T := cur.toList) (xs := xs) (ys := ys) (a := i * 2) (k := 2) (m := (n - i) * 2) (n' := (n + 1) * 2) (by omega) (by rw [show i * 2 + (n - i) * 2 = n * 2 from by omega]; exact HT.out) hl (by rw [Array.length_toList]; omega) (by omega)
    rw [hcur2, HC1.out]
    simpa only [show (i + 1) * 2 = i * 2 + 2 from by omega, List.toList_toArray] using this
  have FIN := Lib.hid fin
  clear fin hw2 hcur2
  go_wp2
  go_ret
  exact ⟨rfl, FIN.out⟩

theorem grow_zeros (g n i base : Nat) (xs : List Value) (w : World) (hn : n ≤ 1000000) (hi : i < n) (hown : w.ownsRow base 39 2 (.slice (some ⟨g, 0, none⟩) n n) n xs) :
    ∃ (N : Nat) (cur1 : Array Value), n + 1 ≤ N ∧ N ≤ maxLen ∧ cur1.size = N * 2 ∧ cur1.toList.take (i * 2) = xs.take (i * 2) ∧
      ∀ ty, (Builtin.append_ #[36, 3] ty #[.slice (some ⟨g, 0, none⟩) i n, .int .i64 ((n : Int) + 1 - i)]).run Try.prog w = .ok (.slice (some ⟨w.heap.size, 0, none⟩) (n + 1) N) (w.drew.alloc (.cells cur1 39)) := by
  obtain ⟨i0, hi0, hz0, hz1, hz2⟩ := info_parts info39
  obtain ⟨cur, hg, hb, hnc, hcm, hcs, htk⟩ := own_block hown
  have hxl := hown.1
  have hk : (n : Int) + 1 - i = ((n + 1 - i : Nat) : Int) := by omega
  have hsum : i + (n + 1 - i) = n + 1 := by omega
  have hold : (Builtin.firstCells i0.size i (.slice (some ⟨g, 0, none⟩) i n)).run Try.prog w.drew = .ok (xs.take (i * 2)).toArray w.drew := by
    have hl : (xs.take (i * 2)).length = i * 2 := by rw [List.length_take, hxl]; omega
    have := run_loadCells_list (P := Try.prog) w.drew ⟨g, 0, none⟩ (xs.take (i * 2)) (cells_of_block (w := w.drew) hg (fun j u hu => by
      rw [← htk, List.take_take, List.getElem?_take] at hu
      split at hu
      · simpa using hu
      · cases hu))
    rw [hl] at this
    rw [hz1]
    exact this
  have hcap : Builtin.nextslicecap (n + 1) n * i0.bytes ≤ 281474976710656 := growslice_fits (by omega) (by rw [hz2]; omega)
  have hrun := fun ty => Lib.run_append_grow_zeros (P := Try.prog) w 36 3 ty 39 i0 _ .i64 .i64 Try.underlying36 Try.underlying3 hi0 hz0 (some ⟨g, 0, none⟩) i n (xs.take (i * 2)) hold (n + 1 - i) (by omega) (by omega) (by omega)
    (by omega) (by rw [hz2]; omega) (by rw [hsum]; exact hcap)
  rw [hsum, ← hk] at hrun
  have hge := grownCap_ge w (n + 1) n 39
  have hle := grownCap_le_maxLen w (n + 1) n 39 (by unfold maxLen; omega)
  refine ⟨_, _, hge, hle, ?_, ?_, hrun⟩
  · simp [Builtin.zeroCells, Value.cells]
    have hl : min (i * 2) xs.length = i * 2 := by rw [hxl]; omega
    rw [hl]
    omega
  · simp only [Array.toList_append]
    have hl : (xs.take (i * 2)).length = i * 2 := by rw [List.length_take, hxl]; omega
    rw [List.append_assoc, List.take_append_of_le_length (by simp [hxl]; omega)]
    exact List.take_of_length_le (by simp; omega)

set_option maxRecDepth 100000 in
set_option maxHeartbeats 4000000 in
theorem insert_grow (g n base bv i : Nat) (xs ys : List Value) (w : World) (hn : n ≤ 1000000) (hbase : base ≤ w.heap.size) (hown : w.ownsRow base 39 2 (.slice (some ⟨g, 0, none⟩) n n) n xs)
    (hl : ys.length = 2) (h1 : ∀ u ∈ ys, u.oneCell' = true) (hbv : w.heap[bv]? = some (.cells ys.toArray 39 (0, 0))) (hi : i < n) (hx1 : ∀ u ∈ xs, u.oneCell' = true) :
    Calls Try.prog 30 #[.slice (some ⟨g, 0, none⟩) n n, .int .i64 i, .slice (some ⟨bv, 0, none⟩) 1 1] w fun r w' => ∃ N, r = .returned (.slice (some ⟨w.heap.size, 0, none⟩) (n + 1) N) ∧
      w'.ownsRow base 39 2 (.slice (some ⟨w.heap.size, 0, none⟩) (n + 1) N) (n + 1) (xs.take (i * 2) ++ ys ++ xs.drop (i * 2)) ∧ w.grownBy w' (some g) := by
  obtain ⟨i0, hi0, hz0, hz1, hz2⟩ := info_parts info39
  obtain ⟨cur, hg, hb, hnc, hcm, hcs, htk⟩ := own_block hown
  have hxl := hown.1
  obtain ⟨N, cur1, hN, hNm, hs1, ht1, hrun⟩ := grow_zeros g n i base xs w hn hi hown
  obtain ⟨w1, hw1⟩ : ∃ w1, w1 = w.drew.alloc (.cells cur1 39) := ⟨_, rfl⟩
  obtain ⟨G, hG⟩ : ∃ G, G = w.heap.size := ⟨_, rfl⟩
  have hgz : g < w.heap.size := (Array.getElem?_eq_some_iff.1 hg).1
  have hbz : bv < w.heap.size := (Array.getElem?_eq_some_iff.1 hbv).1
  have hG1 : w1.heap[G]? = some (.cells cur1 39 (0, 0)) := by rw [hw1, hG]; exact heap_alloc_new w.drew _
  have hg1 : w1.heap[g]? = some (.cells cur 39 (0, 0)) := by rw [hw1, heap_alloc_old w.drew _ g hgz]; exact hg
  have hb1 : w1.heap[bv]? = some (.cells ys.toArray 39 (0, 0)) := by rw [hw1, heap_alloc_old w.drew _ bv hbz]; exact hbv
  rw [← hw1, ← hG] at hrun
  have hm1 : Mod (fun k => k = g) w w1 := by rw [hw1]; exact (Mod.refl _ w).drew.alloc _
  -- the first copy
  obtain ⟨cur2, hcur2⟩ : ∃ cur2 : Array Value, cur2 = (cur1.toList.take (i * 2) ++ ys ++ cur1.toList.drop (i * 2 + ys.length)).toArray := ⟨_, rfl⟩
  obtain ⟨w2, hw2⟩ : ∃ w2, w2 = w1.setRow G cur2 := ⟨_, rfl⟩
  have hs2 : cur2.size = N * 2 := by rw [hcur2]; simp; omega
  have hfit2 : i * 2 + ys.length ≤ cur1.size := by omega
  have hcp2 : ∀ ty, (Builtin.copy_ #[36, 36] ty #[.slice (some ⟨G, i * 2, none⟩) (n + 1 - i) (N - i), .slice (some ⟨bv, 0, none⟩) 1 1]).run Try.prog w1 = .ok (goInt 1) w2 := fun ty => by
    rw [hw2, hcur2]
    exact run_copy_k w1 36 36 ty 39 i0 2 G (i * 2) (n + 1 - i) (N - i) ⟨bv, 0, none⟩ 1 1 1 cur1 39 ys Try.underlying36 hi0 hz1 hG1 (Nat.min_eq_left (by omega)) (by omega) (cells_of_block hb1 (fun j u hu => by simpa using hu)) hfit2 h1
  have hG2 : w2.heap[G]? = some (.cells cur2 39 (0, 0)) := by rw [hw2]; exact setRow_at hG1
  have hg2 : w2.heap[g]? = some (.cells cur 39 (0, 0)) := by rw [hw2, setRow_other w1 G g cur2 (by omega)]; exact hg1
  have hm2 : Mod (fun k => k = g) w w2 := by rw [hw2]; exact setRow_mod hm1 (fun h => by omega) _
  -- the second one
  have hzl : (xs.drop (i * 2)).length = (n - i) * 2 := by rw [List.length_drop, hxl]; omega
  have hsrc3 : ∀ j u, (xs.drop (i * 2))[j]? = some u → w2.drew.cell? ((⟨g, i * 2, none⟩ : Addr).add j) = some u := by
    refine cells_of_block (w := w2.drew) (cur := cur) (t := 39) hg2 (fun j u hu => ?_)
    rw [List.getElem?_drop, ← htk, List.getElem?_take] at hu
    split at hu
    · exact hu
    · cases hu
  obtain ⟨cur3, hcur3⟩ : ∃ cur3 : Array Value, cur3 = (cur2.toList.take ((i + 1) * 2) ++ (xs.drop (i * 2) ++ cur2.toList.drop ((i + 1) * 2 + (n - i) * 2))).toArray := ⟨_, rfl⟩
  obtain ⟨w3, hw3⟩ : ∃ w3, w3 = w2.drew.setRow G cur3 := ⟨_, rfl⟩
  have fin : w3.ownsRow base 39 2 (.slice (some ⟨G, 0, none⟩) (n + 1) N) (n + 1) (xs.take (i * 2) ++ ys ++ xs.drop (i * 2)) ∧ w.grownBy w3 (some g) := by
    have hm3 : Mod (fun k => k = g) w w3 := by rw [hw3]; exact setRow_mod hm2.drew (fun h => by omega) _
    refine ⟨?_, hm3.grownBy (fun k hk => by rw [hk])⟩
    have hs3 : cur3.size = N * 2 := by rw [hcur3]; simp [hzl]; omega
    have hxt : (xs.take (i * 2)).length = i * 2 := by rw [List.length_take, hxl]; omega
    refine own_of_block (by rw [hw3]; exact setRow_at (w := w2.drew) hG2) (by omega) hN hNm hs3 (by simp only [List.length_append, hxt, hzl, hl]; omega) ?_
    have := grown_row (T := cur1.toList) (X := xs.take (i * 2)) (ys := ys) (Z := xs.drop (i * 2)) (a := i * 2) (k := 2) (m := (n - i) * 2) (n' := (n + 1) * 2) ht1 hxt hl hzl (by omega)
    rw [hcur3, hcur2, hl]
    simpa only [show (i + 1) * 2 = i * 2 + 2 from by omega, List.toList_toArray] using this
  have FIN := Lib.hid fin
  have hmin3 : Nat.min (n - i) (n - i) = n - i := Nat.min_self _
  have hfit3 : (i + 1) * 2 + (xs.drop (i * 2)).length ≤ cur2.size := by rw [hzl]; omega
  have hone : ∀ u ∈ xs.drop (i * 2), u.oneCell' = true := fun u hu => hx1 u (List.mem_of_mem_drop hu)
  have HX := Lib.hid hone
  have HS3 := Lib.hid hsrc3
  have HG2 := Lib.hid hG2
  have HC3 := Lib.hid hcur3
  have HW3 := Lib.hid hw3
  have HR := Lib.hid hrun
  have HCP := Lib.hid hcp2
  have HMIN := Lib.hid hmin3
  rw [← hG]
  clear fin hone hsrc3 hG2 hcur3 hw3 hrun hcp2 hm2 hg2 hw2 hcur2 hm1 hb1 hg1 hG1 hw1 ht1 htk hg hbv hown h1 hx1 hmin3 hG
  have hiI : (i : Int) < n := by omega
  have hiI2 : (i : Int) ≤ n := by omega
  have hnb : ((i : Int) == n) = false := by simp; omega
  have hni : ¬ n = i := by omega
  have hNi : ¬ N = i := by omega
  have hNi1 : ¬ N = i + 1 := by omega
  have hgt : (n : Int) < (n : Int) + 1 := by omega
  have hin1 : (i : Int) ≤ (n : Int) + 1 := by omega
  have hcp := HCP.out 3
  go_enter Try.func30, Try.ntmps30
  go_wp2_with (at_builtin; refine Lib.wpList_append_run _ rfl (.tmp 34) (.tmp 39) _ _ rfl _ _ rfl rfl _ _ (HR.out _) ?_)
  have hwr : IntKind.i64.wrap ((i : Int) + 1) = (i : Int) + 1 := IntWalk.i64_in _ (by omega)
  have htn : ((i : Int) + 1).toNat = i + 1 := by omega
  have hw0 : (0 : Int) ≤ (i : Int) + 1 := by omega
  have hwn : (i : Int) + 1 ≤ (n : Int) + 1 := by omega
  have hin2 : i ≤ n + 1 := by omega
  go_region_law (refine step_copy_k rfl (.tmp 50) (.tmp 53) 36 36 rfl 39 i0 2 Try.underlying36 hi0 hz1 G ((i + 1) * 2) (n - i) (N - (i + 1)) ⟨g, i * 2, none⟩ (n - i) (n - i) (n - i) (by simp [Act.eval, Act.put]) (by simp [Act.eval, Act.put]) cur2 39 HG2.out (xs.drop (i * 2)) HMIN.out hzl HS3.out hfit3 HX.out ?_)
  clear hwr htn hw0 hwn hin2
  rw [← HC3.out, ← HW3.out]
  go_wp2
  go_ret
  exact ⟨N, rfl, FIN.out⟩
end Go.Proofs.Ytjcnaefgffnphaa
