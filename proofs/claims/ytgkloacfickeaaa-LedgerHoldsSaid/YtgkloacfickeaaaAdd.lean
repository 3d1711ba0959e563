/- The ledger's Add. -/
import Derived.Test.YtgkloacfickeaaaInsert
import Derived.Test.YtgkloacfickeaaaHold
namespace Go.Proofs.Ytgkloacfickeaaa
open Go.RowKit
set_option linter.unusedVariables false

/-- A list with one more at a place. -/
def putAt (es : List Ent) (i : Nat) (e : Ent) : List Ent := es.take i ++ e :: es.drop i
theorem length_putAt (es : List Ent) (i : Nat) (e : Ent) : (putAt es i e).length = es.length + 1 := by
  unfold putAt; simp only [List.length_append, List.length_cons, List.length_take, List.length_drop]; omega
theorem ents_putAt (es : List Ent) (i : Nat) (e : Ent) : ents (putAt es i e) = (ents es).take (i * 4) ++ e.cells ++ (ents es).drop (i * 4) := by
  unfold putAt; rw [take_ents, drop_ents, ents_append]; simp [ents]

theorem insert_any (es : List Ent) (A : Option Addr) (c base bv i : Nat) (e : Ent) (w : World) (hlen : es.length ≤ 1000000) (hbase : base ≤ w.heap.size) (hown : OwnE w base (.slice A es.length c) es)
    (hbv : w.heap[bv]? = some (.cells e.cells.toArray 55 (0, 0))) (hne : (Value.slice A es.length c).ownBlock ≠ some bv) (hi : i ≤ es.length) :
    Calls Try.prog 33 #[.slice A es.length c, .int .i64 i, .slice (some ⟨bv, 0, none⟩) 1 1] w fun r w' => ∃ v', r = .returned v' ∧ OwnE w' base v' (putAt es i e) ∧
      w.grownBy w' (Value.slice A es.length c).ownBlock ∧ (v'.ownBlock = (Value.slice A es.length c).ownBlock ∨ v'.ownBlock = some w.heap.size) := by
  have h1 : ∀ u ∈ e.cells, u.oneCell' = true := by intro u hu; simp [Ent.cells] at hu; rcases hu with rfl | rfl | rfl | rfl <;> rfl
  unfold OwnE
  rw [length_putAt, ents_putAt]
  by_cases hie : i = es.length
  · subst hie
    have hl := length_ents es
    rw [List.take_of_length_le (by omega), List.drop_eq_nil_of_le (by omega), List.append_nil]
    exact insert_end A es.length c base bv (ents es) e.cells w hlen hbase hown rfl h1 (cells_of_block hbv (fun j u hu => by simpa using hu))
  · have hi' : i < es.length := by omega
    obtain ⟨g, rfl, _⟩ := own_at hown (by omega)
    obtain ⟨A', c', hv, hnc, hcm⟩ := own_form hown
    simp only [Value.slice.injEq] at hv
    obtain ⟨rfl, _, rfl⟩ := hv
    have hgb : bv ≠ g := fun h => hne (by simp [Value.ownBlock, h])
    by_cases hc : es.length + 1 ≤ c
    · exact (insert_room g es.length c base bv i (ents es) e.cells w hlen hown rfl h1 hbv hgb hi' hc (oneCell_ents es)).mono fun r w' ⟨h1, h2, h3⟩ => ⟨_, h1, h2, h3, .inl rfl⟩
    · obtain rfl : c = es.length := by omega
      exact (insert_grow g es.length base bv i (ents es) e.cells w hlen hbase hown rfl h1 hbv hi' (oneCell_ents es)).mono fun r w' ⟨N, h1, h2, h3⟩ => ⟨_, h1, h2, h3, .inr rfl⟩

theorem after_insert {w4 W : World} {p : Nat} {v : Value} (hp : W.heap[p]? = some (.cells #[v] 27 (0, 0))) (hg : W.grownBy w4 v.ownBlock) (hn : v.ownBlock ≠ some p) :
    w4.cell? ⟨p, 0, none⟩ = some v ∧ w4.frozen? ⟨p, 0, none⟩ = false := by
  have h : w4.heap[p]? = some (.cells #[v] 27 (0, 0)) := (hg.block p (Array.getElem?_eq_some_iff.1 hp).1 (fun h => hn h.symm)).trans hp
  exact ⟨by simp [World.cell?, h], by simp [World.frozen?, h]⟩
theorem add_end {w W w4 : World} {p base : Nat} {v v' : Value} {es' : List Ent} (hW : Below w.heap.size w W) (hz : w.heap.size ≤ W.heap.size) (hpz : p < w.heap.size) (hbp : base ≤ p) (hp : W.heap[p]? = some (.cells #[v] 27 (0, 0))) (hg : W.grownBy w4 v.ownBlock) (hn : v.ownBlock ≠ some p)
    (ho : OwnE w4 base v' es') (hv : v'.ownBlock = v.ownBlock ∨ v'.ownBlock = some W.heap.size) :
    Led (w4.setCell ⟨p, 0, none⟩ v') base p v' es' ∧ Mod (LS p v) w (w4.setCell ⟨p, 0, none⟩ v') ∧ (v'.ownBlock = v.ownBlock ∨ ∃ g, v'.ownBlock = some g ∧ w.heap.size ≤ g) := by
  have hn' : v'.ownBlock ≠ some p := by
    rcases hv with h | h <;> rw [h]
    · exact hn
    · intro h; simp at h; omega
  obtain ⟨h1, h2⟩ := led_store hbp hp hg hn ho hn'
  refine ⟨h1, (Mod.of_below hW (Nat.le_refl _)).trans h2 (fun _ _ h => h), ?_⟩
  rcases hv with h | h
  · exact .inl h
  · exact .inr ⟨_, h, hz⟩
/-- What Add answers, and leaves. -/
def addS (es : List Ent) (a n al : Int) : Int × List Ent :=
  if mayB a n al = true then (if freeB es a (max n 1) = true then (0, putAt es (lb es a) ⟨a, n, al, false⟩) else (6, es)) else (2, es)

set_option maxHeartbeats 2000000 in
theorem add_any (p base : Nat) (v : Value) (es : List Ent) (a n al : Int) (w : World) (hlen : es.length ≤ 999999) (hs : Fit es) (hL : Led w base p v es)
    (a0 : 0 ≤ a) (a1 : a ≤ 18446744073709551615) (n0 : 0 ≤ n) (n1 : n ≤ 18446744073709551615) (l0 : 0 ≤ al) (l1 : al ≤ 18446744073709551615) :
    Calls Try.prog 18 #[.pointer (some ⟨p, 0, none⟩), .agg #[.int .u64 a, .int .u64 n, .int .u64 al]] w fun r w' =>
      r = .returned (.int .i64 (addS es a n al).1) ∧ ∃ v', Led w' base p v' (addS es a n al).2 ∧ Mod (LS p v) w w' ∧ (v'.ownBlock = v.ownBlock ∨ ∃ g, v'.ownBlock = some g ∧ w.heap.size ≤ g) := by
  obtain ⟨A, c, rfl, hnc, hcm⟩ := hL.2.2.form
  have hp := hL.lt
  have HL := Lib.hid hL
  have HS := Lib.hid hs
  have H32 := Lib.hid (may_any a n al (w.alloc (.cells #[.int .u64 a, .int .u64 n, .int .u64 al] 35)) a0 a1 n0 n1 l0 l1)
  cases hmay : mayB a n al
  · have hr : addS es a n al = (2, es) := by unfold addS; rw [hmay]; rfl
    rw [hr]
    rw [hmay] at H32
    clear hr hmay hL hs
    go_enter Try.func18, Try.ntmps18
    go_wp2_with (go_at_call 32; refine H32.out.mono ?_; rintro r w1 ⟨rfl, hb1⟩)
    go_ret
    exact ⟨rfl, _, HL.out.below (below_box hb1) (Nat.le_refl _), Mod.of_below (below_box hb1) (Nat.le_refl _), .inl rfl⟩
  · rw [hmay] at H32
    obtain ⟨m1, m2, m3, m4, m5, m6⟩ := mayB_bd hmay
    by_cases hn1' : 1 ≤ n
    · have HM : max n 1 = n := by omega
      cases hfree : freeB es a n
      · have hr : addS es a n al = (6, es) := by unfold addS; rw [hmay, HM, hfree]; rfl
        rw [hr]
        have HF := Lib.hid hfree
        clear hr hmay hL hs hfree HM
        go_enter Try.func18, Try.ntmps18
        go_wp2_with (first | (go_at_call 32; refine H32.out.mono ?_; rintro r w1 ⟨rfl, hb1⟩; obtain ⟨hc1, hf1⟩ := bcell hb1) | (go_at_call 17; refine (free_any p base _ es a n _ (by omega) HS.out (by exact HL.out.below (below_box hb1) (Nat.le_refl _)) a0 a1 (by omega) (by omega)).mono ?_; rintro r w2 ⟨rfl, hb2⟩; rw [HF.out]))
        go_ret
        have hb := (below_box hb1).trans (hb2.mono (by have := hb1.size; simp at this; omega))
        exact ⟨rfl, _, HL.out.below hb (Nat.le_refl _), Mod.of_below hb (Nat.le_refl _), .inl rfl⟩
      · have hr : addS es a n al = (0, putAt es (lb es a) ⟨a, n, al, false⟩) := by unfold addS; rw [hmay, HM, hfree]; rfl
        rw [hr]
        have HF := Lib.hid hfree
        clear hr hmay hL hs hfree HM
        go_enter Try.func18, Try.ntmps18
        go_wp2_with (first | (go_at_call 32; refine H32.out.mono ?_; rintro r w1 ⟨rfl, hb1⟩; obtain ⟨hc1, hf1⟩ := bcell hb1; have hz1 : w.heap.size < w1.heap.size := (by have := hb1.size; simp at this; omega)) | (go_at_call 17; refine (free_any p base _ es a n _ (by omega) HS.out (by exact HL.out.below (below_box hb1) (Nat.le_refl _)) a0 a1 (by omega) (by omega)).mono ?_; rintro r w2 ⟨rfl, hb2⟩; rw [HF.out]; obtain ⟨hc2, hf2⟩ := bcell hb2; have hz2 : w.heap.size < w2.heap.size := (by have := hb2.size; omega)) | (go_at_call 28; refine (place_any p base _ es a _ (by omega) HS.out.rising (by exact (HL.out.below (below_box hb1) (Nat.le_refl _)).below hb2 (Nat.le_refl _))).mono ?_; rintro r w3 ⟨rfl, hb3⟩; obtain ⟨hc3, hf3⟩ := bcell hb3))
        have hz3 : w.heap.size < w3.heap.size := by have := hb3.size; omega
        have hb : Below w.heap.size w w3 := ((below_box hb1).trans (hb2.mono (by omega))).trans (hb3.mono (by omega))
        have hL3 : Led w3 base p (.slice A es.length c) es := HL.out.below hb (Nat.le_refl _)
        have hbox0 : w3.cell? ⟨w.heap.size, 0, none⟩ = some (.int .u64 a) := by rw [hc3 _ _ hz2, hc2 _ _ hz1, hc1 _ _ (by simp)]; simp
        have hbox1 : w3.cell? ⟨w.heap.size, 1, none⟩ = some (.int .u64 n) := by rw [hc3 _ _ hz2, hc2 _ _ hz1, hc1 _ _ (by simp)]; simp
        have hbox2 : w3.cell? ⟨w.heap.size, 2, none⟩ = some (.int .u64 al) := by rw [hc3 _ _ hz2, hc2 _ _ hz1, hc1 _ _ (by simp)]; simp
        clear hc1 hf1 hc2 hf2 hc3 hf3
        have hcell := hL3.cell
        have hfr := hL3.frozen
        have hpz := hL3.lt
        have hown : OwnE ((w3.alloc (.cells #[.int .u64 a, .int .u64 n, .int .u64 al, .bool false] 55)).drew) base (.slice A es.length c) es := (hL3.box _).2.2
        have HO := Lib.hid hown
        have HP := Lib.hid hL3.2.1
        have HN := Lib.hid hL3.ne
        have HBP := Lib.hid hL3.1
        have HG : Hid ((Value.slice A es.length c).ownBlock ≠ some w3.heap.size) := Lib.hid (fun h => by have := (hL3.2.2.lt _ h).2; omega)
        have HB := Lib.hid hb
        have hle := lb_le es a
        clear hown hL3 hb hb1 hb2 hb3
        have hW : Below w.heap.size w ((w3.alloc (.cells #[.int .u64 a, .int .u64 n, .int .u64 al, .bool false] 55)).drew) := (HB.out.alloc (by omega) _).drew
        have hWp : ((w3.alloc (.cells #[.int .u64 a, .int .u64 n, .int .u64 al, .bool false] 55)).drew).heap[p]? = some (.cells #[.slice A es.length c] 27 (0, 0)) := (Below.heap_alloc w3 _ p hpz).trans HP.out
        have HW := Lib.hid hW
        have HWP := Lib.hid hWp
        have hWb : ((w3.alloc (.cells #[.int .u64 a, .int .u64 n, .int .u64 al, .bool false] 55)).drew).heap[w3.heap.size]? = some (.cells (Ent.cells ⟨a, n, al, false⟩).toArray 55 (0, 0)) := heap_alloc_new w3 _
        have HWB := Lib.hid hWb
        have hbase : base ≤ ((w3.alloc (.cells #[.int .u64 a, .int .u64 n, .int .u64 al, .bool false] 55)).drew).heap.size := by have := HBP.out; simp; omega
        have HBS := Lib.hid hbase
        clear hW hWp hWb hbase
        go_region_with (go_at_call 33; (with_reducible refine (insert_any es A c base w3.heap.size (lb es a) ⟨a, n, al, false⟩ _ (by omega) HBS.out HO.out (by exact HWB.out) HG.out hle).mono ?_); rintro r w4 ⟨v', rfl, ho, hg, hvb⟩; obtain ⟨hpc, hpf⟩ := after_insert HWP.out hg HN.out; have HE := Lib.hid (add_end HW.out (by simp; omega) hp HBP.out HWP.out hg HN.out ho hvb); obtain ⟨A', c', rfl, _, _⟩ := ho.form; clear ho hg hvb)
        all_goals
          go_wp2
          go_ret
          exact ⟨rfl, _, HE.out⟩
    · obtain rfl : n = 0 := by omega
      have HM : max (0 : Int) 1 = 1 := by omega
      cases hfree : freeB es a 1
      · have hr : addS es a 0 al = (6, es) := by unfold addS; rw [hmay, HM, hfree]; rfl
        rw [hr]
        have HF := Lib.hid hfree
        clear hr hmay hL hs hfree HM
        go_enter Try.func18, Try.ntmps18
        go_wp2_with (first | (go_at_call 32; refine H32.out.mono ?_; rintro r w1 ⟨rfl, hb1⟩; obtain ⟨hc1, hf1⟩ := bcell hb1) | (go_at_call 17; refine (free_any p base _ es a 1 _ (by omega) HS.out (by exact HL.out.below (below_box hb1) (Nat.le_refl _)) a0 a1 (by omega) (by omega)).mono ?_; rintro r w2 ⟨rfl, hb2⟩; rw [HF.out]))
        go_ret
        have hb := (below_box hb1).trans (hb2.mono (by have := hb1.size; simp at this; omega))
        exact ⟨rfl, _, HL.out.below hb (Nat.le_refl _), Mod.of_below hb (Nat.le_refl _), .inl rfl⟩
      · have hr : addS es a 0 al = (0, putAt es (lb es a) ⟨a, 0, al, false⟩) := by unfold addS; rw [hmay, HM, hfree]; rfl
        rw [hr]
        have HF := Lib.hid hfree
        clear hr hmay hL hs hfree HM
        go_enter Try.func18, Try.ntmps18
        go_wp2_with (first | (go_at_call 32; refine H32.out.mono ?_; rintro r w1 ⟨rfl, hb1⟩; obtain ⟨hc1, hf1⟩ := bcell hb1; have hz1 : w.heap.size < w1.heap.size := (by have := hb1.size; simp at this; omega)) | (go_at_call 17; refine (free_any p base _ es a 1 _ (by omega) HS.out (by exact HL.out.below (below_box hb1) (Nat.le_refl _)) a0 a1 (by omega) (by omega)).mono ?_; rintro r w2 ⟨rfl, hb2⟩; rw [HF.out]; obtain ⟨hc2, hf2⟩ := bcell hb2; have hz2 : w.heap.size < w2.heap.size := (by have := hb2.size; omega)) | (go_at_call 28; refine (place_any p base _ es a _ (by omega) HS.out.rising (by exact (HL.out.below (below_box hb1) (Nat.le_refl _)).below hb2 (Nat.le_refl _))).mono ?_; rintro r w3 ⟨rfl, hb3⟩; obtain ⟨hc3, hf3⟩ := bcell hb3))
        have hz3 : w.heap.size < w3.heap.size := by have := hb3.size; omega
        have hb : Below w.heap.size w w3 := ((below_box hb1).trans (hb2.mono (by omega))).trans (hb3.mono (by omega))
        have hL3 : Led w3 base p (.slice A es.length c) es := HL.out.below hb (Nat.le_refl _)
        have hbox0 : w3.cell? ⟨w.heap.size, 0, none⟩ = some (.int .u64 a) := by rw [hc3 _ _ hz2, hc2 _ _ hz1, hc1 _ _ (by simp)]; simp
        have hbox1 : w3.cell? ⟨w.heap.size, 1, none⟩ = some (.int .u64 0) := by rw [hc3 _ _ hz2, hc2 _ _ hz1, hc1 _ _ (by simp)]; simp
        have hbox2 : w3.cell? ⟨w.heap.size, 2, none⟩ = some (.int .u64 al) := by rw [hc3 _ _ hz2, hc2 _ _ hz1, hc1 _ _ (by simp)]; simp
        clear hc1 hf1 hc2 hf2 hc3 hf3
        have hcell := hL3.cell
        have hfr := hL3.frozen
        have hpz := hL3.lt
        have hown : OwnE ((w3.alloc (.cells #[.int .u64 a, .int .u64 0, .int .u64 al, .bool false] 55)).drew) base (.slice A es.length c) es := (hL3.box _).2.2
        have HO := Lib.hid hown
        have HP := Lib.hid hL3.2.1
        have HN := Lib.hid hL3.ne
        have HBP := Lib.hid hL3.1
        have HG : Hid ((Value.slice A es.length c).ownBlock ≠ some w3.heap.size) := Lib.hid (fun h => by have := (hL3.2.2.lt _ h).2; omega)
        have HB := Lib.hid hb
        have hle := lb_le es a
        clear hown hL3 hb hb1 hb2 hb3
        have hW : Below w.heap.size w ((w3.alloc (.cells #[.int .u64 a, .int .u64 0, .int .u64 al, .bool false] 55)).drew) := (HB.out.alloc (by omega) _).drew
        have hWp : ((w3.alloc (.cells #[.int .u64 a, .int .u64 0, .int .u64 al, .bool false] 55)).drew).heap[p]? = some (.cells #[.slice A es.length c] 27 (0, 0)) := (Below.heap_alloc w3 _ p hpz).trans HP.out
        have HW := Lib.hid hW
        have HWP := Lib.hid hWp
        have hWb : ((w3.alloc (.cells #[.int .u64 a, .int .u64 0, .int .u64 al, .bool false] 55)).drew).heap[w3.heap.size]? = some (.cells (Ent.cells ⟨a, 0, al, false⟩).toArray 55 (0, 0)) := heap_alloc_new w3 _
        have HWB := Lib.hid hWb
        have hbase : base ≤ ((w3.alloc (.cells #[.int .u64 a, .int .u64 0, .int .u64 al, .bool false] 55)).drew).heap.size := by have := HBP.out; simp; omega
        have HBS := Lib.hid hbase
        clear hW hWp hWb hbase
        go_region_with (go_at_call 33; (with_reducible refine (insert_any es A c base w3.heap.size (lb es a) ⟨a, 0, al, false⟩ _ (by omega) HBS.out HO.out (by exact HWB.out) HG.out hle).mono ?_); rintro r w4 ⟨v', rfl, ho, hg, hvb⟩; obtain ⟨hpc, hpf⟩ := after_insert HWP.out hg HN.out; have HE := Lib.hid (add_end HW.out (by simp; omega) hp HBP.out HWP.out hg HN.out ho hvb); obtain ⟨A', c', rfl, _, _⟩ := ho.form; clear ho hg hvb)
        all_goals
          go_wp2
          go_ret
          exact ⟨rfl, _, HE.out⟩
end Go.Proofs.Ytgkloacfickeaaa
