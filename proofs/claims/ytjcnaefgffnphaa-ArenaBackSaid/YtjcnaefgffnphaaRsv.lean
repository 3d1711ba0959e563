/- The arena's Reserve. -/
import Derived.Test.YtjcnaefgffnphaaRel
namespace Go.Proofs.Ytjcnaefgffnphaa
open Go.RowKit
set_option linter.unusedVariables false

theorem regs_putAt (es : List Reg) (i : Nat) (e : Reg) : regs (putAt es i e) = (regs es).take (i * 2) ++ e.cells ++ (regs es).drop (i * 2) := by
  unfold putAt; rw [take_regs, drop_regs, regs_append]; simp [regs]
theorem insert_any (es : List Reg) (A : Option Addr) (c base bv i : Nat) (e : Reg) (w : World) (hlen : es.length ≤ 1000000) (hbase : base ≤ w.heap.size) (hown : OwnR w base (.slice A es.length c) es)
    (hbv : w.heap[bv]? = some (.cells e.cells.toArray 39 (0, 0))) (hne : (Value.slice A es.length c).ownBlock ≠ some bv) (hi : i ≤ es.length) :
    Calls Try.prog 30 #[.slice A es.length c, .int .i64 i, .slice (some ⟨bv, 0, none⟩) 1 1] w fun r w' => ∃ v', r = .returned v' ∧ OwnR w' base v' (putAt es i e) ∧
      w.grownBy w' (Value.slice A es.length c).ownBlock ∧ (v'.ownBlock = (Value.slice A es.length c).ownBlock ∨ v'.ownBlock = some w.heap.size) := by
  have h1 : ∀ u ∈ e.cells, u.oneCell' = true := by intro u hu; simp [Reg.cells] at hu; rcases hu with rfl | rfl <;> rfl
  unfold OwnR
  rw [length_putAt, regs_putAt]
  by_cases hie : i = es.length
  · subst hie
    have hl := length_regs es
    rw [List.take_of_length_le (by omega), List.drop_eq_nil_of_le (by omega), List.append_nil]
    exact insert_end A es.length c base bv (regs es) e.cells w hlen hbase hown rfl h1 (cells_of_block hbv (fun j u hu => by simpa using hu))
  · have hi' : i < es.length := by omega
    obtain ⟨g, rfl, _⟩ := own_at hown (by omega)
    obtain ⟨A', c', hv, hnc, hcm⟩ := own_form hown
    simp only [Value.slice.injEq] at hv
    obtain ⟨rfl, _, rfl⟩ := hv
    have hgb : bv ≠ g := fun h => hne (by simp [Value.ownBlock, h])
    by_cases hc : es.length + 1 ≤ c
    · exact (insert_room g es.length c base bv i (regs es) e.cells w hlen hown rfl h1 hbv hgb hi' hc (oneCell_regs es)).mono fun r w' ⟨h1, h2, h3⟩ => ⟨_, h1, h2, h3, .inl rfl⟩
    · obtain rfl : c = es.length := by omega
      exact (insert_grow g es.length base bv i (regs es) e.cells w hlen hbase hown rfl h1 hbv hi' (oneCell_regs es)).mono fun r w' ⟨N, h1, h2, h3⟩ => ⟨_, h1, h2, h3, .inr rfl⟩

theorem find_at (p : Nat) (A : Option Addr) (c : Nat) (L : List Reg) (t : Int) (w : World) (hc : w.cell? ⟨p, 3, none⟩ = some (.slice A L.length c)) (hl : L.length ≤ 1000000) (hr : Rising L) (ho : OwnR w 0 (.slice A L.length c) L) :
    Calls Try.prog 29 #[.pointer (some ⟨p, 0, none⟩), .int .i64 t] w fun r w' => r = .returned (.tuple #[.int .i64 (lb L t), .bool (found L t)]) ∧ Below w.heap.size w w' := by
  have HB := Lib.hid (bs_any L A c 0 t w hl hr ho)
  clear ho hr
  go_enter Try.func29, Try.ntmps29
  go_wp2_with (go_at_call 38; (with_reducible refine HB.out.mono ?_); rintro r w1 ⟨rfl, hb1⟩)
  go_ret2
  exact ⟨rfl, hb1⟩

theorem take_none (p g n r : Nat) (f : Nat → Bool) (w : World) (hn : n ≤ 1000000) (hM : Mk w p g n f) (h1 : 1 ≤ r) (h2 : r ≤ n) (hl : lowF f n r = none) :
    Calls Try.prog 28 #[.pointer (some ⟨p, 0, none⟩), .int .i64 r] w fun e w' => e = .returned (.tuple #[.int .i64 0, .int .i64 4]) ∧ Below w.heap.size w w' :=
  (take_any p g n r f w hn hM h1 h2).mono fun e w' h => by unfold TakePost at h; rw [hl] at h; exact h
theorem take_some (p g n r a : Nat) (f : Nat → Bool) (w : World) (hn : n ≤ 1000000) (hM : Mk w p g n f) (h1 : 1 ≤ r) (h2 : r ≤ n) (hl : lowF f n r = some a) :
    Calls Try.prog 28 #[.pointer (some ⟨p, 0, none⟩), .int .i64 r] w fun e w' => e = .returned (.tuple #[.int .i64 a, .int .i64 0]) ∧ Mod (MS p g) w w' ∧ Mk w' p g n (upd f a r true) :=
  (take_any p g n r f w hn hM h1 h2).mono fun e w' h => by unfold TakePost at h; rw [hl] at h; exact h

theorem left_trans {w w1 w' : World} {p pm g : Nat} {vR vT vT1 : Value} {s' : St} (hm : Mod (AB p pm g vR vT) w w1) (hv : vT1.ownBlock = vT.ownBlock) (hL : Left w1 p pm g vR vT1 s' w') : Left w p pm g vR vT s' w' := by
  obtain ⟨vR', vT', h1, h2, h3⟩ := hL
  have e : ∀ k, AB p pm g vR vT1 k → AB p pm g vR vT k := fun k hk => by unfold AB at hk ⊢; rw [← hv]; exact hk
  exact ⟨vR', vT', h1, hm.trans h2 (fun k _ hk => e k hk), fun k hk => (h3 k hk).imp (e k) (fun h => Nat.le_trans hm.size h)⟩
theorem Mod.undrew {S : Nat → Prop} {w w1 : World} (h : Mod S w.drew w1) : Mod S w w1 := ⟨h.os, h.tape, h.output, h.size, h.block⟩
theorem ref_end {w1 : World} {p pm g : Nat} {vR vT : Value} {s : St} (h : Ar0 w1 p pm g vR vT s) (hl : s.refused + 1 ≤ 1000000) : Left w1 p pm g vR vT { s with refused := s.refused + 1 } (w1.setCell ⟨p, 5, none⟩ (.int .i64 ((s.refused : Int) + 1))) :=
  ⟨vR, vT, h.setRef hl, (Mod.refl (AB p pm g vR vT) w1).setCell (p := ⟨p, 5, none⟩) (fun _ => .inl rfl) _, Fresh.refl _ _ _ _ _ _⟩

set_option maxHeartbeats 1000000 in
theorem reserve_arg (p pm g : Nat) (vR vT : Value) (s : St) (n : Int) (w : World) (h : Ar0 w p pm g vR vT s) (hn : n < 1 ∨ (s.segs : Int) < n) :
    Calls Try.prog 11 #[.pointer (some ⟨p, 0, none⟩), .int .i64 n] w fun r w' => r = .returned (.tuple #[.int .i64 0, .int .i64 2]) ∧ w = w' := by
  have hc1 := h.c1
  have hs := h.ok.s2
  clear h
  by_cases h1 : n < 1
  · have hd : decide (n < 1) = true := by simpa using h1
    go_enter Try.func11, Try.ntmps11
    go_wp2
    go_ret2
    exact ⟨rfl, rfl⟩
  · have hd : decide (n < 1) = false := by simpa using h1
    have hn1 : 1 ≤ n := by omega
    have hn2 : (s.segs : Int) < n := by omega
    go_enter Try.func11, Try.ntmps11
    go_wp2
    go_ret2
    exact ⟨rfl, rfl⟩

theorem next_at {p pm g : Nat} {vR vT : Value} {s : St} {w : World} (h : Ar0 w p pm g vR vT s) (x : Bool) (hx : s.told.headD false = x) :
    Calls Try.prog 27 #[.pointer (some ⟨p, 0, none⟩)] w fun r w' => r = .returned (.bool x) ∧
      ∃ vT', Ar0 w' p pm g vR vT' { s with told := s.told.tail } ∧ Mod (AB p pm g vR vT) w w' ∧ vT'.ownBlock = vT.ownBlock :=
  (next_any p pm g vR vT s w h).mono fun r w' ⟨e, vT', h1, h2, h3⟩ => ⟨by rw [e, hx], vT', h1, h2.mono (fun k _ hk => .inl hk), h3⟩

/-- An operation that yields is taken first; one whose guard is false is passed over. -/
theorem any_take {P : Program} {md : Region.Mode} {ops : Array Oper} {Q : Exit → Act → World → Prop} {i : Nat} {oi : Oper} {v : Value} {fuel : Nat} {listed : Array Bool} {a : Act} {w : World} (d : Option Tmp) (hi : ops[i]? = some oi) (hd : oi.dst = d)
    (hs : Region.noSelect ops = true) (hf : Region.free md ops listed i = true) (hr : (Region.ready md ops listed).contains i = true)
    (hQ : ∀ c a w, Q (.panic c) (a.put oi.dst v) w → Q (.panic c) a w) (hy : Yields P ops oi v a)
    (h : wpAny P md ops Q fuel (listed.setIfInBounds i true) (a.put d v) w) : wpAny P md ops Q (fuel + 1) listed a w :=
  wpAny_take hi hs hf hr hQ hy (hd ▸ h)

set_option maxRecDepth 100000 in
set_option maxHeartbeats 2000000 in
theorem reserve_told (p pm g k : Nat) (vR vT : Value) (s : St) (w : World) (h : Ar0 w p pm g vR vT s) (h1 : 1 ≤ k) (h2 : k ≤ s.segs) (hx : s.told.headD false = true) (hf : s.refused + 1 ≤ 1000000) :
    Calls Try.prog 11 #[.pointer (some ⟨p, 0, none⟩), .int .i64 k] w fun r w' => r = .returned (.tuple #[.int .i64 0, .int .i64 4]) ∧ Left w p pm g vR vT { s with told := s.told.tail, refused := s.refused + 1 } w' := by
  have hc1 := h.c1
  have hs := h.ok.s2
  have HA := Lib.hid h
  have HX := Lib.hid hx
  have hd : decide ((k : Int) < 1) = false := by simp; omega
  have hn1 : (1 : Int) ≤ k := by omega
  have hn2 : (k : Int) ≤ s.segs := by omega
  clear h hx
  go_enter Try.func11, Try.ntmps11
  go_wp2_with fail
  refine wp_region_any (by kernel_rfl) ?_
  change wpAny _ _ _ _ _ _ _ (World.drew _)
  refine any_take (i := 0) (v := .pointer (some ⟨p, 0, none⟩)) (some 24) rfl rfl (by kernel_rfl) (by kernel_rfl) (by kernel_rfl) (fun _ _ _ h => h) (Or.inl ⟨by rfl, fun w => by go_simp⟩) ?_
  simp only [Act.put, List.setIfInBounds_toArray, List.set_cons_succ, List.set_cons_zero]
  refine wpAny_ready (rs := [1]) (by kernel_rfl) (by simp) (AllReady.cons rfl (fun K hK => ?_) AllReady.nil)
  go_simp
  go_wp2_with (go_at_call 27; refine (next_at HA.out.drew true HX.out).mono ?_; rintro r w1 ⟨rfl, vT1, hA1, hm1, hv1⟩; have HA1 := Lib.hid hA1; have HM1 := Lib.hid hm1; have HV1 := Lib.hid hv1; clear hA1 hm1 hv1)
  refine any_take (i := 2) (v := .bool false) (some 26) rfl rfl (by kernel_rfl) (by kernel_rfl) (by kernel_rfl) (fun _ _ _ h => h) (Or.inl ⟨by rfl, fun w => by go_simp⟩) ?_
  simp only [Act.put, List.setIfInBounds_toArray, List.set_cons_succ, List.set_cons_zero]
  refine any_take (i := 3) (v := .bool false) (some 27) rfl rfl (by kernel_rfl) (by kernel_rfl) (by kernel_rfl) (fun _ _ _ h => h) (Or.inl ⟨by rfl, fun w => by go_simp⟩) ?_
  simp only [Act.put, List.setIfInBounds_toArray, List.set_cons_succ, List.set_cons_zero]
  refine any_take (i := 4) (v := undef) (some 28) rfl rfl (by kernel_rfl) (by kernel_rfl) (by kernel_rfl) (fun _ _ _ h => h) (Or.inr ⟨by rfl, rfl⟩) ?_
  simp only [Act.put, List.setIfInBounds_toArray, List.set_cons_succ, List.set_cons_zero]
  refine any_take (i := 5) (v := undef) (some 29) rfl rfl (by kernel_rfl) (by kernel_rfl) (by kernel_rfl) (fun _ _ _ h => h) (Or.inr ⟨by rfl, rfl⟩) ?_
  simp only [Act.put, List.setIfInBounds_toArray, List.set_cons_succ, List.set_cons_zero]
  refine any_take (i := 6) (v := undef) (some 30) rfl rfl (by kernel_rfl) (by kernel_rfl) (by kernel_rfl) (fun _ _ _ h => h) (Or.inr ⟨by rfl, rfl⟩) ?_
  simp only [Act.put, List.setIfInBounds_toArray, List.set_cons_succ, List.set_cons_zero]
  refine any_take (i := 7) (v := undef) (some 31) rfl rfl (by kernel_rfl) (by kernel_rfl) (by kernel_rfl) (fun _ _ _ h => h) (Or.inr ⟨by rfl, rfl⟩) ?_
  simp only [Act.put, List.setIfInBounds_toArray, List.set_cons_succ, List.set_cons_zero]
  refine any_take (i := 8) (v := undef) (some 32) rfl rfl (by kernel_rfl) (by kernel_rfl) (by kernel_rfl) (fun _ _ _ h => h) (Or.inr ⟨by rfl, rfl⟩) ?_
  simp only [Act.put, List.setIfInBounds_toArray, List.set_cons_succ, List.set_cons_zero]
  refine any_take (i := 9) (v := undef) (some 33) rfl rfl (by kernel_rfl) (by kernel_rfl) (by kernel_rfl) (fun _ _ _ h => h) (Or.inr ⟨by rfl, rfl⟩) ?_
  simp only [Act.put, List.setIfInBounds_toArray, List.set_cons_succ, List.set_cons_zero]
  refine any_take (i := 10) (v := undef) (some 34) rfl rfl (by kernel_rfl) (by kernel_rfl) (by kernel_rfl) (fun _ _ _ h => h) (Or.inr ⟨by rfl, rfl⟩) ?_
  simp only [Act.put, List.setIfInBounds_toArray, List.set_cons_succ, List.set_cons_zero]
  refine any_take (i := 11) (v := undef) (some 35) rfl rfl (by kernel_rfl) (by kernel_rfl) (by kernel_rfl) (fun _ _ _ h => h) (Or.inr ⟨by rfl, rfl⟩) ?_
  simp only [Act.put, List.setIfInBounds_toArray, List.set_cons_succ, List.set_cons_zero]
  refine any_take (i := 12) (v := undef) (some 36) rfl rfl (by kernel_rfl) (by kernel_rfl) (by kernel_rfl) (fun _ _ _ h => h) (Or.inr ⟨by rfl, rfl⟩) ?_
  simp only [Act.put, List.setIfInBounds_toArray, List.set_cons_succ, List.set_cons_zero]
  refine any_take (i := 13) (v := .bool false) (some 37) rfl rfl (by kernel_rfl) (by kernel_rfl) (by kernel_rfl) (fun _ _ _ h => h) (Or.inl ⟨by rfl, fun w => by go_simp⟩) ?_
  simp only [Act.put, List.setIfInBounds_toArray, List.set_cons_succ, List.set_cons_zero]
  refine wpAny_done (by kernel_rfl) ?_ _
  have hc5 := HA1.out.c5
  have hf5 := HA1.out.fr 5
  have hri : (s.refused : Int) ≤ 1000000 := by omega
  go_wp2
  go_ret2
  exact ⟨rfl, left_trans (HM1.out.undrew) HV1.out (ref_end HA1.out hf)⟩
theorem Mod.drewN {S : Nat → Prop} {w w1 : World} (h : Mod S w w1) (n : Nat) : Mod S w (w1.drewN n) := ⟨h.os, h.tape, h.output, h.size, h.block⟩
theorem own_ne_new {w : World} {v : Value} {es : List Reg} (h : OwnR w 0 v es) : v.ownBlock ≠ some w.heap.size := fun e => by have := (h.lt _ e).2; omega
/-- The insertion, behind the search. -/
theorem rsv_ins {w3 w4 : World} {A : Option Addr} {c a k : Nat} {L : List Reg} (hR : OwnR w3 0 (.slice A L.length c) L) (hb : Below w3.heap.size w3 w4) (hl : L.length ≤ 1000000) :
    Calls Try.prog 30 #[.slice A L.length c, .int .i64 (lb L (a : Int)), .slice (some ⟨w4.heap.size, 0, none⟩) 1 1] (w4.alloc (.cells #[.int .i64 (a : Int), .int .i64 (k : Int)] 39)) fun r w' => ∃ v', r = .returned v' ∧ OwnR w' 0 v' (putAt L (lb L (a : Int)) ⟨a, k⟩) ∧
      (w4.alloc (.cells #[.int .i64 (a : Int), .int .i64 (k : Int)] 39)).grownBy w' (Value.slice A L.length c).ownBlock ∧ (v'.ownBlock = (Value.slice A L.length c).ownBlock ∨ v'.ownBlock = some (w4.heap.size + 1)) := by
  have hR4 : OwnR w4 0 (.slice A L.length c) L := hR.mod (S := fun _ => False) (Mod.of_below hb (Nat.le_refl _)) (fun _ _ h => h)
  have hR5 : OwnR (w4.alloc (.cells #[.int .i64 (a : Int), .int .i64 (k : Int)] 39)) 0 (.slice A L.length c) L := hR4.mod (S := fun _ => False) ((Mod.refl _ w4).alloc _) (fun _ _ h => h)
  have := insert_any L A c 0 w4.heap.size (lb L (a : Int)) ⟨a, k⟩ (w4.alloc (.cells #[.int .i64 (a : Int), .int .i64 (k : Int)] 39)) hl (Nat.zero_le _) hR5 (heap_alloc_new w4 _) (own_ne_new hR4) (lb_le L _)
  rw [World.size_alloc] at this
  exact this
theorem rsv_p {w2 w3 w4 w5 : World} {p pm g : Nat} {vR vT : Value} {s : St} {o : Obj} {x : Obj} (h2 : Ar0 w2 p pm g vR vT s) (hm : Mod (MS pm g) w2 w3) (hb : Below w3.heap.size w3 w4)
    (hp4 : w4.heap[p]? = some x) (hg : (w4.alloc o).grownBy w5 vR.ownBlock) : w5.heap[p]? = some x := by
  have hz : p < w4.heap.size := (Array.getElem?_eq_some_iff.1 hp4).1
  exact (hg.block p (by simp; omega) (fun e => h2.vR_ne.1 e.symm)).trans ((Below.heap_alloc _ _ _ hz).trans hp4)
theorem rsv_end {w2 w3 w4 w5 : World} {p pm g c a k : Nat} {A : Option Addr} {vT v' : Value} {s : St} {o : Obj} (h2 : Ar0 w2 p pm g (.slice A s.L.length c) vT s) (hm : Mod (MS pm g) w2 w3) (hk : Mk w3 pm g s.segs (upd (cov s.L) a k true)) (hb : Below w3.heap.size w3 w4)
    (ho : OwnR w5 0 v' (putAt s.L (lb s.L (a : Int)) ⟨a, k⟩)) (hg : (w4.alloc o).grownBy w5 (Value.slice A s.L.length c).ownBlock) (hv : v'.ownBlock = (Value.slice A s.L.length c).ownBlock ∨ v'.ownBlock = some (w4.heap.size + 1))
    (h1 : 1 ≤ k) (hf : FreeAt (cov s.L) s.segs a k) : Left w2 p pm g (.slice A s.L.length c) vT { s with L := putAt s.L (lb s.L (a : Int)) ⟨a, k⟩ } (w5.setCell ⟨p, 3, none⟩ v') := by
  have hm4 : Mod (MS pm g) w2 (w4.alloc o) := (hm.then_below hb hm.size).alloc o
  have hm5 : Mod (fun j => MS pm g j ∨ (Value.slice A s.L.length c).ownBlock = some j) w2 w5 := (hm4.mono (fun _ _ h => .inl h)).grown hg (fun j hj _ => .inr hj)
  have hgMS : ∀ j, MS pm g j → (Value.slice A s.L.length c).ownBlock ≠ some j := by
    rintro j (rfl | rfl)
    · exact h2.vR_ne.2.1
    · exact h2.vR_ne.2.2
  have hk5 : Mk w5 pm g s.segs (cov (putAt s.L (lb s.L (a : Int)) ⟨a, k⟩)) := by
    have hk4 := (hk.below hb hk.plt hk.glt).below ((Below.refl _ w4).alloc (Nat.le_refl _) o) (Nat.lt_of_lt_of_le hk.plt hb.size) (Nat.lt_of_lt_of_le hk.glt hb.size)
    exact (hk4.mod ((Mod.refl (fun j => (Value.slice A s.L.length c).ownBlock = some j) (w4.alloc o)).grown hg (fun j hj _ => hj)) (fun e => hgMS pm (.inl rfl) e) (fun e => hgMS g (.inr rfl) e)).congr (fun j _ => (cov_put _ _ _ _ _).symm)
  exact ⟨v', vT, ar_regs h2 hm5 hk5 ho (good_put h2.ok.good (by omega) hf) (hv.imp id (fun e => ⟨_, e, by have := hm.size; have := hb.size; omega⟩))⟩

set_option maxRecDepth 100000 in
set_option maxHeartbeats 4000000 in
theorem reserve_full (p pm g k : Nat) (vR vT : Value) (s : St) (w : World) (h : Ar0 w p pm g vR vT s) (h1 : 1 ≤ k) (h2 : k ≤ s.segs) (hx : s.told.headD false = false) (hfull : s.limit < given s.L + k) (hf : s.refused + 1 ≤ 1000000) :
    Calls Try.prog 11 #[.pointer (some ⟨p, 0, none⟩), .int .i64 k] w fun r w' => r = .returned (.tuple #[.int .i64 0, .int .i64 4]) ∧ Left w p pm g vR vT { s with told := s.told.tail, refused := s.refused + 1 } w' := by
  have hc1 := h.c1
  have hs := h.ok.s2
  have hlim := h.ok.lim
  have hgl := given_le h.ok.good
  have HA := Lib.hid h
  have HX := Lib.hid hx
  have hd : decide ((k : Int) < 1) = false := by simp; omega
  have hn1 : (1 : Int) ≤ k := by omega
  have hn2 : (k : Int) ≤ s.segs := by omega
  have hg1 : (given s.L : Int) ≤ 64 := by omega
  have hcond : decide ((given s.L : Int) + k ≤ s.limit) = false := by simp; omega
  clear h hx
  go_enter Try.func11, Try.ntmps11
  go_wp2_with fail
  refine wp_region_any (by kernel_rfl) ?_
  change wpAny _ _ _ _ _ _ _ (World.drew _)
  refine any_take (i := 0) (v := .pointer (some ⟨p, 0, none⟩)) (some 24) rfl rfl (by kernel_rfl) (by kernel_rfl) (by kernel_rfl) (fun _ _ _ h => h) (Or.inl ⟨by rfl, fun w => by go_simp⟩) ?_
  simp only [Act.put, List.setIfInBounds_toArray, List.set_cons_succ, List.set_cons_zero]
  refine wpAny_ready (rs := [1]) (by kernel_rfl) (by simp) (AllReady.cons rfl (fun K hK => ?_) AllReady.nil)
  go_simp
  go_wp2_with (go_at_call 27; refine (next_at HA.out.drew false HX.out).mono ?_; rintro r w1 ⟨rfl, vT1, hA1, hm1, hv1⟩; have HA1 := Lib.hid hA1; have HM1 := Lib.hid hm1; have HV1 := Lib.hid hv1; clear hA1 hm1 hv1)
  have hc2 := HA1.out.c2
  refine any_take (i := 2) (v := .bool true) (some 26) rfl rfl (by kernel_rfl) (by kernel_rfl) (by kernel_rfl) (fun _ _ _ h => h) (Or.inl ⟨by rfl, fun w => by go_simp⟩) ?_
  simp only [Act.put, List.setIfInBounds_toArray, List.set_cons_succ, List.set_cons_zero]
  refine any_take (i := 3) (v := .bool true) (some 27) rfl rfl (by kernel_rfl) (by kernel_rfl) (by kernel_rfl) (fun _ _ _ h => h) (Or.inl ⟨by rfl, fun w => by go_simp⟩) ?_
  simp only [Act.put, List.setIfInBounds_toArray, List.set_cons_succ, List.set_cons_zero]
  refine any_take (i := 4) (v := .pointer (some ⟨p, 0, none⟩)) (some 28) rfl rfl (by kernel_rfl) (by kernel_rfl) (by kernel_rfl) (fun _ _ _ h => h) (Or.inl ⟨by rfl, fun w => by go_simp⟩) ?_
  simp only [Act.put, List.setIfInBounds_toArray, List.set_cons_succ, List.set_cons_zero]
  refine any_take (i := 6) (v := .int .i64 k) (some 30) rfl rfl (by kernel_rfl) (by kernel_rfl) (by kernel_rfl) (fun _ _ _ h => h) (Or.inl ⟨by rfl, fun w => by go_simp⟩) ?_
  simp only [Act.put, List.setIfInBounds_toArray, List.set_cons_succ, List.set_cons_zero]
  refine any_take (i := 8) (v := .pointer (some ⟨p, 0, none⟩)) (some 32) rfl rfl (by kernel_rfl) (by kernel_rfl) (by kernel_rfl) (fun _ _ _ h => h) (Or.inl ⟨by rfl, fun w => by go_simp⟩) ?_
  simp only [Act.put, List.setIfInBounds_toArray, List.set_cons_succ, List.set_cons_zero]
  refine any_take (i := 9) (v := .pointer (some ⟨p, 0, none⟩)) (some 33) rfl rfl (by kernel_rfl) (by kernel_rfl) (by kernel_rfl) (fun _ _ _ h => h) (Or.inl ⟨by rfl, fun w => by go_simp⟩) ?_
  simp only [Act.put, List.setIfInBounds_toArray, List.set_cons_succ, List.set_cons_zero]
  refine any_take (i := 10) (v := .pointer (some ⟨p, 2, none⟩)) (some 34) rfl rfl (by kernel_rfl) (by kernel_rfl) (by kernel_rfl) (fun _ _ _ h => h) (Or.inl ⟨by rfl, fun w => by go_simp⟩) ?_
  simp only [Act.put, List.setIfInBounds_toArray, List.set_cons_succ, List.set_cons_zero]
  refine wpAny_ready (rs := [5, 11]) (by kernel_rfl) (by simp) (AllReady.cons rfl (fun K hK => ?_) (AllReady.cons rfl (fun K hK => ?_) AllReady.nil))
  · go_simp
    go_wp2_with (go_at_call 13; refine (given_any p pm g vR vT1 _ _ (by exact HA1.out)).mono ?_; rintro r w2 ⟨rfl, m, rfl⟩)
    refine any_take (i := 7) (v := .int .i64 ((given s.L : Int) + k)) (some 31) rfl rfl (by kernel_rfl) (by kernel_rfl) (by kernel_rfl) (fun _ _ _ h => h) (Or.inl ⟨by rfl, fun w => by go_simp; exact IntWalk.i64_in _ (by omega)⟩) ?_
    simp only [Act.put, List.setIfInBounds_toArray, List.set_cons_succ, List.set_cons_zero]
    refine wpAny_ready (rs := [11]) (by kernel_rfl) (by simp) (AllReady.cons rfl (fun K hK => ?_) AllReady.nil)
    go_simp
    refine hK _ _ ?_
    clear hK K
    refine any_take (i := 12) (v := .bool false) (some 36) rfl rfl (by kernel_rfl) (by kernel_rfl) (by kernel_rfl) (fun _ _ _ h => h) (Or.inl ⟨by rfl, fun w => by go_simp⟩) ?_
    simp only [Act.put, List.setIfInBounds_toArray, List.set_cons_succ, List.set_cons_zero]
    refine any_take (i := 13) (v := .bool false) (some 37) rfl rfl (by kernel_rfl) (by kernel_rfl) (by kernel_rfl) (fun _ _ _ h => h) (Or.inl ⟨by rfl, fun w => by go_simp⟩) ?_
    simp only [Act.put, List.setIfInBounds_toArray, List.set_cons_succ, List.set_cons_zero]
    refine wpAny_done (by kernel_rfl) ?_ _
    have hA2 := HA1.out.drewN m
    have hc5 := hA2.c5
    have hf5 := hA2.fr 5
    have HA2 := Lib.hid hA2
    clear hA2
    have hri : (s.refused : Int) ≤ 1000000 := by omega
    go_wp2
    go_ret2
    exact ⟨rfl, left_trans (HM1.out.undrew.drewN m) HV1.out (ref_end HA2.out hf)⟩
  · go_simp
    refine hK _ _ ?_
    clear hK K
    refine wpAny_ready (rs := [5]) (by kernel_rfl) (by simp) (AllReady.cons rfl (fun K hK => ?_) AllReady.nil)
    go_simp
    go_wp2_with (go_at_call 13; refine (given_any p pm g vR vT1 _ _ (by exact HA1.out)).mono ?_; rintro r w2 ⟨rfl, m, rfl⟩)
    refine any_take (i := 7) (v := .int .i64 ((given s.L : Int) + k)) (some 31) rfl rfl (by kernel_rfl) (by kernel_rfl) (by kernel_rfl) (fun _ _ _ h => h) (Or.inl ⟨by rfl, fun w => by go_simp; exact IntWalk.i64_in _ (by omega)⟩) ?_
    simp only [Act.put, List.setIfInBounds_toArray, List.set_cons_succ, List.set_cons_zero]
    refine any_take (i := 12) (v := .bool false) (some 36) rfl rfl (by kernel_rfl) (by kernel_rfl) (by kernel_rfl) (fun _ _ _ h => h) (Or.inl ⟨by rfl, fun w => by go_simp⟩) ?_
    simp only [Act.put, List.setIfInBounds_toArray, List.set_cons_succ, List.set_cons_zero]
    refine any_take (i := 13) (v := .bool false) (some 37) rfl rfl (by kernel_rfl) (by kernel_rfl) (by kernel_rfl) (fun _ _ _ h => h) (Or.inl ⟨by rfl, fun w => by go_simp⟩) ?_
    simp only [Act.put, List.setIfInBounds_toArray, List.set_cons_succ, List.set_cons_zero]
    refine wpAny_done (by kernel_rfl) ?_ _
    have hA2 := HA1.out.drewN m
    have hc5 := hA2.c5
    have hf5 := hA2.fr 5
    have HA2 := Lib.hid hA2
    clear hA2
    have hri : (s.refused : Int) ≤ 1000000 := by omega
    go_wp2
    go_ret2
    exact ⟨rfl, left_trans (HM1.out.undrew.drewN m) HV1.out (ref_end HA2.out hf)⟩

set_option maxRecDepth 100000 in
set_option maxHeartbeats 4000000 in
theorem reserve_none (p pm g k : Nat) (vR vT : Value) (s : St) (w : World) (h : Ar0 w p pm g vR vT s) (h1 : 1 ≤ k) (h2 : k ≤ s.segs) (hx : s.told.headD false = false) (hroom : given s.L + k ≤ s.limit) (hlow : lowF (cov s.L) s.segs k = none) (hf : s.refused + 1 ≤ 1000000) :
    Calls Try.prog 11 #[.pointer (some ⟨p, 0, none⟩), .int .i64 k] w fun r w' => r = .returned (.tuple #[.int .i64 0, .int .i64 4]) ∧ Left w p pm g vR vT { s with told := s.told.tail, refused := s.refused + 1 } w' := by
  have hc1 := h.c1
  have hs := h.ok.s2
  have hlim := h.ok.lim
  have hgl := given_le h.ok.good
  have HA := Lib.hid h
  have HX := Lib.hid hx
  have hd : decide ((k : Int) < 1) = false := by simp; omega
  have hn1 : (1 : Int) ≤ k := by omega
  have hn2 : (k : Int) ≤ s.segs := by omega
  have hg1 : (given s.L : Int) ≤ 64 := by omega
  have hcond : decide ((given s.L : Int) + k ≤ s.limit) = true := by simp; omega
  have HLOW := Lib.hid hlow
  clear h hx hlow
  go_enter Try.func11, Try.ntmps11
  go_wp2_with fail
  refine wp_region_any (by kernel_rfl) ?_
  change wpAny _ _ _ _ _ _ _ (World.drew _)
  refine any_take (i := 0) (v := .pointer (some ⟨p, 0, none⟩)) (some 24) rfl rfl (by kernel_rfl) (by kernel_rfl) (by kernel_rfl) (fun _ _ _ h => h) (Or.inl ⟨by rfl, fun w => by go_simp⟩) ?_
  simp only [Act.put, List.setIfInBounds_toArray, List.set_cons_succ, List.set_cons_zero]
  refine wpAny_ready (rs := [1]) (by kernel_rfl) (by simp) (AllReady.cons rfl (fun K hK => ?_) AllReady.nil)
  go_simp
  go_wp2_with (go_at_call 27; refine (next_at HA.out.drew false HX.out).mono ?_; rintro r w1 ⟨rfl, vT1, hA1, hm1, hv1⟩; have HA1 := Lib.hid hA1; have HM1 := Lib.hid hm1; have HV1 := Lib.hid hv1; clear hA1 hm1 hv1)
  have hc2 := HA1.out.c2
  refine any_take (i := 2) (v := .bool true) (some 26) rfl rfl (by kernel_rfl) (by kernel_rfl) (by kernel_rfl) (fun _ _ _ h => h) (Or.inl ⟨by rfl, fun w => by go_simp⟩) ?_
  simp only [Act.put, List.setIfInBounds_toArray, List.set_cons_succ, List.set_cons_zero]
  refine any_take (i := 3) (v := .bool true) (some 27) rfl rfl (by kernel_rfl) (by kernel_rfl) (by kernel_rfl) (fun _ _ _ h => h) (Or.inl ⟨by rfl, fun w => by go_simp⟩) ?_
  simp only [Act.put, List.setIfInBounds_toArray, List.set_cons_succ, List.set_cons_zero]
  refine any_take (i := 4) (v := .pointer (some ⟨p, 0, none⟩)) (some 28) rfl rfl (by kernel_rfl) (by kernel_rfl) (by kernel_rfl) (fun _ _ _ h => h) (Or.inl ⟨by rfl, fun w => by go_simp⟩) ?_
  simp only [Act.put, List.setIfInBounds_toArray, List.set_cons_succ, List.set_cons_zero]
  refine any_take (i := 6) (v := .int .i64 k) (some 30) rfl rfl (by kernel_rfl) (by kernel_rfl) (by kernel_rfl) (fun _ _ _ h => h) (Or.inl ⟨by rfl, fun w => by go_simp⟩) ?_
  simp only [Act.put, List.setIfInBounds_toArray, List.set_cons_succ, List.set_cons_zero]
  refine any_take (i := 8) (v := .pointer (some ⟨p, 0, none⟩)) (some 32) rfl rfl (by kernel_rfl) (by kernel_rfl) (by kernel_rfl) (fun _ _ _ h => h) (Or.inl ⟨by rfl, fun w => by go_simp⟩) ?_
  simp only [Act.put, List.setIfInBounds_toArray, List.set_cons_succ, List.set_cons_zero]
  refine any_take (i := 9) (v := .pointer (some ⟨p, 0, none⟩)) (some 33) rfl rfl (by kernel_rfl) (by kernel_rfl) (by kernel_rfl) (fun _ _ _ h => h) (Or.inl ⟨by rfl, fun w => by go_simp⟩) ?_
  simp only [Act.put, List.setIfInBounds_toArray, List.set_cons_succ, List.set_cons_zero]
  refine any_take (i := 10) (v := .pointer (some ⟨p, 2, none⟩)) (some 34) rfl rfl (by kernel_rfl) (by kernel_rfl) (by kernel_rfl) (fun _ _ _ h => h) (Or.inl ⟨by rfl, fun w => by go_simp⟩) ?_
  simp only [Act.put, List.setIfInBounds_toArray, List.set_cons_succ, List.set_cons_zero]
  refine wpAny_ready (rs := [5, 11]) (by kernel_rfl) (by simp) (AllReady.cons rfl (fun K hK => ?_) (AllReady.cons rfl (fun K hK => ?_) AllReady.nil))
  · go_simp
    go_wp2_with (go_at_call 13; refine (given_any p pm g vR vT1 _ _ (by exact HA1.out)).mono ?_; rintro r w2 ⟨rfl, m, rfl⟩)
    refine any_take (i := 7) (v := .int .i64 ((given s.L : Int) + k)) (some 31) rfl rfl (by kernel_rfl) (by kernel_rfl) (by kernel_rfl) (fun _ _ _ h => h) (Or.inl ⟨by rfl, fun w => by go_simp; exact IntWalk.i64_in _ (by omega)⟩) ?_
    simp only [Act.put, List.setIfInBounds_toArray, List.set_cons_succ, List.set_cons_zero]
    refine wpAny_ready (rs := [11]) (by kernel_rfl) (by simp) (AllReady.cons rfl (fun K hK => ?_) AllReady.nil)
    go_simp
    refine hK _ _ ?_
    clear hK K
    refine any_take (i := 12) (v := .bool true) (some 36) rfl rfl (by kernel_rfl) (by kernel_rfl) (by kernel_rfl) (fun _ _ _ h => h) (Or.inl ⟨by rfl, fun w => by go_simp⟩) ?_
    simp only [Act.put, List.setIfInBounds_toArray, List.set_cons_succ, List.set_cons_zero]
    refine any_take (i := 13) (v := .bool true) (some 37) rfl rfl (by kernel_rfl) (by kernel_rfl) (by kernel_rfl) (fun _ _ _ h => h) (Or.inl ⟨by rfl, fun w => by go_simp⟩) ?_
    simp only [Act.put, List.setIfInBounds_toArray, List.set_cons_succ, List.set_cons_zero]
    refine wpAny_done (by kernel_rfl) ?_ _
    have hA2 := HA1.out.drewN m
    have hc0 := hA2.c0
    have HA2 := Lib.hid hA2
    clear hA2
    have hri : (s.refused : Int) ≤ 1000000 := by omega
    go_wp2_with (go_at_call 28; refine (take_none pm g s.segs k (cov s.L) _ (by omega) (by exact HA2.out.mks) h1 h2 HLOW.out).mono ?_; rintro r w3 ⟨rfl, hb3⟩; have hA3 := HA2.out.below hb3; have hc5 := hA3.c5; have hf5 := hA3.fr 5; have HA3 := Lib.hid hA3; have HB3 := Lib.hid hb3; clear hA3 hb3)
    go_ret2
    exact ⟨rfl, left_trans ((HM1.out.undrew.drewN m).then_below HB3.out (HM1.out.undrew.drewN m).size) HV1.out (ref_end HA3.out hf)⟩
  · go_simp
    refine hK _ _ ?_
    clear hK K
    refine wpAny_ready (rs := [5]) (by kernel_rfl) (by simp) (AllReady.cons rfl (fun K hK => ?_) AllReady.nil)
    go_simp
    go_wp2_with (go_at_call 13; refine (given_any p pm g vR vT1 _ _ (by exact HA1.out)).mono ?_; rintro r w2 ⟨rfl, m, rfl⟩)
    refine any_take (i := 7) (v := .int .i64 ((given s.L : Int) + k)) (some 31) rfl rfl (by kernel_rfl) (by kernel_rfl) (by kernel_rfl) (fun _ _ _ h => h) (Or.inl ⟨by rfl, fun w => by go_simp; exact IntWalk.i64_in _ (by omega)⟩) ?_
    simp only [Act.put, List.setIfInBounds_toArray, List.set_cons_succ, List.set_cons_zero]
    refine any_take (i := 12) (v := .bool true) (some 36) rfl rfl (by kernel_rfl) (by kernel_rfl) (by kernel_rfl) (fun _ _ _ h => h) (Or.inl ⟨by rfl, fun w => by go_simp⟩) ?_
    simp only [Act.put, List.setIfInBounds_toArray, List.set_cons_succ, List.set_cons_zero]
    refine any_take (i := 13) (v := .bool true) (some 37) rfl rfl (by kernel_rfl) (by kernel_rfl) (by kernel_rfl) (fun _ _ _ h => h) (Or.inl ⟨by rfl, fun w => by go_simp⟩) ?_
    simp only [Act.put, List.setIfInBounds_toArray, List.set_cons_succ, List.set_cons_zero]
    refine wpAny_done (by kernel_rfl) ?_ _
    have hA2 := HA1.out.drewN m
    have hc0 := hA2.c0
    have HA2 := Lib.hid hA2
    clear hA2
    have hri : (s.refused : Int) ≤ 1000000 := by omega
    go_wp2_with (go_at_call 28; refine (take_none pm g s.segs k (cov s.L) _ (by omega) (by exact HA2.out.mks) h1 h2 HLOW.out).mono ?_; rintro r w3 ⟨rfl, hb3⟩; have hA3 := HA2.out.below hb3; have hc5 := hA3.c5; have hf5 := hA3.fr 5; have HA3 := Lib.hid hA3; have HB3 := Lib.hid hb3; clear hA3 hb3)
    go_ret2
    exact ⟨rfl, left_trans ((HM1.out.undrew.drewN m).then_below HB3.out (HM1.out.undrew.drewN m).size) HV1.out (ref_end HA3.out hf)⟩

set_option maxRecDepth 100000 in
set_option maxHeartbeats 4000000 in
theorem reserve_some (p pm g k a : Nat) (vR vT : Value) (s : St) (w : World) (h : Ar0 w p pm g vR vT s) (h1 : 1 ≤ k) (h2 : k ≤ s.segs) (hx : s.told.headD false = false) (hroom : given s.L + k ≤ s.limit) (hlow : lowF (cov s.L) s.segs k = some a) :
    Calls Try.prog 11 #[.pointer (some ⟨p, 0, none⟩), .int .i64 k] w fun r w' => r = .returned (.tuple #[.int .i64 a, .int .i64 0]) ∧ Left w p pm g vR vT { s with told := s.told.tail, L := putAt s.L (lb s.L a) ⟨a, k⟩ } w' := by
  have hc1 := h.c1
  have hs := h.ok.s2
  have hlim := h.ok.lim
  have hgl := given_le h.ok.good
  have HA := Lib.hid h
  have HX := Lib.hid hx
  have hd : decide ((k : Int) < 1) = false := by simp; omega
  have hn1 : (1 : Int) ≤ k := by omega
  have hn2 : (k : Int) ≤ s.segs := by omega
  have hg1 : (given s.L : Int) ≤ 64 := by omega
  have hcond : decide ((given s.L : Int) + k ≤ s.limit) = true := by simp; omega
  have hlen := h.ok.len
  have HLOW := Lib.hid hlow
  clear h hx hlow
  go_enter Try.func11, Try.ntmps11
  go_wp2_with fail
  refine wp_region_any (by kernel_rfl) ?_
  change wpAny _ _ _ _ _ _ _ (World.drew _)
  refine any_take (i := 0) (v := .pointer (some ⟨p, 0, none⟩)) (some 24) rfl rfl (by kernel_rfl) (by kernel_rfl) (by kernel_rfl) (fun _ _ _ h => h) (Or.inl ⟨by rfl, fun w => by go_simp⟩) ?_
  simp only [Act.put, List.setIfInBounds_toArray, List.set_cons_succ, List.set_cons_zero]
  refine wpAny_ready (rs := [1]) (by kernel_rfl) (by simp) (AllReady.cons rfl (fun K hK => ?_) AllReady.nil)
  go_simp
  go_wp2_with (go_at_call 27; refine (next_at HA.out.drew false HX.out).mono ?_; rintro r w1 ⟨rfl, vT1, hA1, hm1, hv1⟩; have HA1 := Lib.hid hA1; have HM1 := Lib.hid hm1; have HV1 := Lib.hid hv1; clear hA1 hm1 hv1)
  have hc2 := HA1.out.c2
  refine any_take (i := 2) (v := .bool true) (some 26) rfl rfl (by kernel_rfl) (by kernel_rfl) (by kernel_rfl) (fun _ _ _ h => h) (Or.inl ⟨by rfl, fun w => by go_simp⟩) ?_
  simp only [Act.put, List.setIfInBounds_toArray, List.set_cons_succ, List.set_cons_zero]
  refine any_take (i := 3) (v := .bool true) (some 27) rfl rfl (by kernel_rfl) (by kernel_rfl) (by kernel_rfl) (fun _ _ _ h => h) (Or.inl ⟨by rfl, fun w => by go_simp⟩) ?_
  simp only [Act.put, List.setIfInBounds_toArray, List.set_cons_succ, List.set_cons_zero]
  refine any_take (i := 4) (v := .pointer (some ⟨p, 0, none⟩)) (some 28) rfl rfl (by kernel_rfl) (by kernel_rfl) (by kernel_rfl) (fun _ _ _ h => h) (Or.inl ⟨by rfl, fun w => by go_simp⟩) ?_
  simp only [Act.put, List.setIfInBounds_toArray, List.set_cons_succ, List.set_cons_zero]
  refine any_take (i := 6) (v := .int .i64 k) (some 30) rfl rfl (by kernel_rfl) (by kernel_rfl) (by kernel_rfl) (fun _ _ _ h => h) (Or.inl ⟨by rfl, fun w => by go_simp⟩) ?_
  simp only [Act.put, List.setIfInBounds_toArray, List.set_cons_succ, List.set_cons_zero]
  refine any_take (i := 8) (v := .pointer (some ⟨p, 0, none⟩)) (some 32) rfl rfl (by kernel_rfl) (by kernel_rfl) (by kernel_rfl) (fun _ _ _ h => h) (Or.inl ⟨by rfl, fun w => by go_simp⟩) ?_
  simp only [Act.put, List.setIfInBounds_toArray, List.set_cons_succ, List.set_cons_zero]
  refine any_take (i := 9) (v := .pointer (some ⟨p, 0, none⟩)) (some 33) rfl rfl (by kernel_rfl) (by kernel_rfl) (by kernel_rfl) (fun _ _ _ h => h) (Or.inl ⟨by rfl, fun w => by go_simp⟩) ?_
  simp only [Act.put, List.setIfInBounds_toArray, List.set_cons_succ, List.set_cons_zero]
  refine any_take (i := 10) (v := .pointer (some ⟨p, 2, none⟩)) (some 34) rfl rfl (by kernel_rfl) (by kernel_rfl) (by kernel_rfl) (fun _ _ _ h => h) (Or.inl ⟨by rfl, fun w => by go_simp⟩) ?_
  simp only [Act.put, List.setIfInBounds_toArray, List.set_cons_succ, List.set_cons_zero]
  refine wpAny_ready (rs := [5, 11]) (by kernel_rfl) (by simp) (AllReady.cons rfl (fun K hK => ?_) (AllReady.cons rfl (fun K hK => ?_) AllReady.nil))
  · go_simp
    go_wp2_with (go_at_call 13; refine (given_any p pm g vR vT1 _ _ (by exact HA1.out)).mono ?_; rintro r w2 ⟨rfl, m, rfl⟩)
    refine any_take (i := 7) (v := .int .i64 ((given s.L : Int) + k)) (some 31) rfl rfl (by kernel_rfl) (by kernel_rfl) (by kernel_rfl) (fun _ _ _ h => h) (Or.inl ⟨by rfl, fun w => by go_simp; exact IntWalk.i64_in _ (by omega)⟩) ?_
    simp only [Act.put, List.setIfInBounds_toArray, List.set_cons_succ, List.set_cons_zero]
    refine wpAny_ready (rs := [11]) (by kernel_rfl) (by simp) (AllReady.cons rfl (fun K hK => ?_) AllReady.nil)
    go_simp
    refine hK _ _ ?_
    clear hK K
    refine any_take (i := 12) (v := .bool true) (some 36) rfl rfl (by kernel_rfl) (by kernel_rfl) (by kernel_rfl) (fun _ _ _ h => h) (Or.inl ⟨by rfl, fun w => by go_simp⟩) ?_
    simp only [Act.put, List.setIfInBounds_toArray, List.set_cons_succ, List.set_cons_zero]
    refine any_take (i := 13) (v := .bool true) (some 37) rfl rfl (by kernel_rfl) (by kernel_rfl) (by kernel_rfl) (fun _ _ _ h => h) (Or.inl ⟨by rfl, fun w => by go_simp⟩) ?_
    simp only [Act.put, List.setIfInBounds_toArray, List.set_cons_succ, List.set_cons_zero]
    refine wpAny_done (by kernel_rfl) ?_ _
    have hA2 := HA1.out.drewN m
    have hc0 := hA2.c0
    have HA2 := Lib.hid hA2
    clear hA2
    go_wp2_with (go_at_call 28; refine (take_some pm g s.segs k a (cov s.L) _ (by omega) (by exact HA2.out.mks) h1 h2 HLOW.out).mono ?_; rintro r w3 ⟨rfl, hm3, hk3⟩; have HM3 := Lib.hid hm3; have HK3 := Lib.hid hk3; clear hm3 hk3)
    have hp3 := (HM3.out.block p HA2.out.plt (by rintro (e | e); exact HA2.out.p_pm e; exact HA2.out.p_g e)).trans HA2.out.at_
    have hR3 := HA2.out.regs.mod HM3.out (fun j hj hS => by rcases hS with e | e; exact HA2.out.vR_ne.2.1 (by rw [← e]; exact hj); exact HA2.out.vR_ne.2.2 (by rw [← e]; exact hj))
    obtain ⟨A, c, rfl, _, hcm⟩ := hR3.form
    simp only at hR3
    have hc33 : w3.cell? ⟨p, 3, none⟩ = some (.slice A s.L.length c) := by simp [World.cell?, hp3]
    have HP3 := Lib.hid hp3
    have HR3 := Lib.hid hR3
    clear hp3 hR3
    go_wp2_with fail
    refine (find_at p A c s.L a w3 hc33 (by omega) (good_rising HA.out.ok.good) HR3.out).mono ?_
    rintro r w4 ⟨rfl, hb4⟩
    have hp4 := (hb4.block p (Nat.lt_of_lt_of_le HA2.out.plt HM3.out.size)).trans HP3.out
    have hc43 : w4.cell? ⟨p, 3, none⟩ = some (.slice A s.L.length c) := by simp [World.cell?, hp4]
    have HP4 := Lib.hid hp4
    have HB4 := Lib.hid hb4
    clear hp4 hb4
    have hle := lb_le s.L (a : Int)
    have HI := Lib.hid (rsv_ins (a := a) (k := k) HR3.out HB4.out (by omega))
    go_wp2_with fail
    refine HI.out.mono ?_
    rintro r w5 ⟨v', rfl, ho5, hg5, hv5⟩
    obtain ⟨A5, c5, rfl, _, _⟩ := ho5.form
    have hp5 := rsv_p HA2.out HM3.out HB4.out HP4.out hg5
    have hc53 : w5.cell? ⟨p, 3, none⟩ = some (.slice A s.L.length c) := by simp [World.cell?, hp5]
    have hf53 : w5.frozen? ⟨p, 3, none⟩ = false := by simp [World.frozen?, hp5]
    have HE := Lib.hid (rsv_end (s := { s with told := s.told.tail }) HA2.out HM3.out HK3.out HB4.out ho5 hg5 hv5 h1 (lowF_free HLOW.out))
    clear ho5 hg5 hv5 hp5
    go_wp2
    go_ret2
    exact ⟨rfl, left_trans (HM1.out.undrew.drewN m) HV1.out HE.out⟩
  · go_simp
    refine hK _ _ ?_
    clear hK K
    refine wpAny_ready (rs := [5]) (by kernel_rfl) (by simp) (AllReady.cons rfl (fun K hK => ?_) AllReady.nil)
    go_simp
    go_wp2_with (go_at_call 13; refine (given_any p pm g vR vT1 _ _ (by exact HA1.out)).mono ?_; rintro r w2 ⟨rfl, m, rfl⟩)
    refine any_take (i := 7) (v := .int .i64 ((given s.L : Int) + k)) (some 31) rfl rfl (by kernel_rfl) (by kernel_rfl) (by kernel_rfl) (fun _ _ _ h => h) (Or.inl ⟨by rfl, fun w => by go_simp; exact IntWalk.i64_in _ (by omega)⟩) ?_
    simp only [Act.put, List.setIfInBounds_toArray, List.set_cons_succ, List.set_cons_zero]
    refine any_take (i := 12) (v := .bool true) (some 36) rfl rfl (by kernel_rfl) (by kernel_rfl) (by kernel_rfl) (fun _ _ _ h => h) (Or.inl ⟨by rfl, fun w => by go_simp⟩) ?_
    simp only [Act.put, List.setIfInBounds_toArray, List.set_cons_succ, List.set_cons_zero]
    refine any_take (i := 13) (v := .bool true) (some 37) rfl rfl (by kernel_rfl) (by kernel_rfl) (by kernel_rfl) (fun _ _ _ h => h) (Or.inl ⟨by rfl, fun w => by go_simp⟩) ?_
    simp only [Act.put, List.setIfInBounds_toArray, List.set_cons_succ, List.set_cons_zero]
    refine wpAny_done (by kernel_rfl) ?_ _
    have hA2 := HA1.out.drewN m
    have hc0 := hA2.c0
    have HA2 := Lib.hid hA2
    clear hA2
    go_wp2_with (go_at_call 28; refine (take_some pm g s.segs k a (cov s.L) _ (by omega) (by exact HA2.out.mks) h1 h2 HLOW.out).mono ?_; rintro r w3 ⟨rfl, hm3, hk3⟩; have HM3 := Lib.hid hm3; have HK3 := Lib.hid hk3; clear hm3 hk3)
    have hp3 := (HM3.out.block p HA2.out.plt (by rintro (e | e); exact HA2.out.p_pm e; exact HA2.out.p_g e)).trans HA2.out.at_
    have hR3 := HA2.out.regs.mod HM3.out (fun j hj hS => by rcases hS with e | e; exact HA2.out.vR_ne.2.1 (by rw [← e]; exact hj); exact HA2.out.vR_ne.2.2 (by rw [← e]; exact hj))
    obtain ⟨A, c, rfl, _, hcm⟩ := hR3.form
    simp only at hR3
    have hc33 : w3.cell? ⟨p, 3, none⟩ = some (.slice A s.L.length c) := by simp [World.cell?, hp3]
    have HP3 := Lib.hid hp3
    have HR3 := Lib.hid hR3
    clear hp3 hR3
    go_wp2_with fail
    refine (find_at p A c s.L a w3 hc33 (by omega) (good_rising HA.out.ok.good) HR3.out).mono ?_
    rintro r w4 ⟨rfl, hb4⟩
    have hp4 := (hb4.block p (Nat.lt_of_lt_of_le HA2.out.plt HM3.out.size)).trans HP3.out
    have hc43 : w4.cell? ⟨p, 3, none⟩ = some (.slice A s.L.length c) := by simp [World.cell?, hp4]
    have HP4 := Lib.hid hp4
    have HB4 := Lib.hid hb4
    clear hp4 hb4
    have hle := lb_le s.L (a : Int)
    have HI := Lib.hid (rsv_ins (a := a) (k := k) HR3.out HB4.out (by omega))
    go_wp2_with fail
    refine HI.out.mono ?_
    rintro r w5 ⟨v', rfl, ho5, hg5, hv5⟩
    obtain ⟨A5, c5, rfl, _, _⟩ := ho5.form
    have hp5 := rsv_p HA2.out HM3.out HB4.out HP4.out hg5
    have hc53 : w5.cell? ⟨p, 3, none⟩ = some (.slice A s.L.length c) := by simp [World.cell?, hp5]
    have hf53 : w5.frozen? ⟨p, 3, none⟩ = false := by simp [World.frozen?, hp5]
    have HE := Lib.hid (rsv_end (s := { s with told := s.told.tail }) HA2.out HM3.out HK3.out HB4.out ho5 hg5 hv5 h1 (lowF_free HLOW.out))
    clear ho5 hg5 hv5 hp5
    go_wp2
    go_ret2
    exact ⟨rfl, left_trans (HM1.out.undrew.drewN m) HV1.out HE.out⟩

theorem reserve_any (p pm g : Nat) (vR vT : Value) (s : St) (n : Int) (w : World) (h : Ar0 w p pm g vR vT s) (hf : s.refused + 1 ≤ 1000000) :
    Calls Try.prog 11 #[.pointer (some ⟨p, 0, none⟩), .int .i64 n] w fun r w' => r = .returned (.tuple #[.int .i64 (resS s n).1, .int .i64 (resS s n).2.1]) ∧ Left w p pm g vR vT (resS s n).2.2 w' := by
  by_cases hn : n < 1 ∨ (s.segs : Int) < n
  · have e : resS s n = (0, 2, s) := by unfold resS; rw [if_pos hn]
    rw [e]
    exact (reserve_arg p pm g vR vT s n w h hn).mono fun r w' ⟨a, b⟩ => ⟨a, vR, vT, b ▸ h, b ▸ Mod.refl _ _, Fresh.refl _ _ _ _ _ _⟩
  · obtain ⟨k, rfl⟩ := Int.eq_ofNat_of_zero_le (show 0 ≤ n by omega)
    cases hx : s.told.headD false
    · by_cases hroom : given s.L + k ≤ s.limit
      · cases hl : lowF (cov s.L) s.segs k with
        | none =>
          have e : resS s k = (0, 4, { s with told := s.told.tail, refused := s.refused + 1 }) := by
            unfold resS; rw [if_neg hn, if_pos ⟨hx, by omega⟩, Int.toNat_natCast, hl]
          rw [e]
          exact reserve_none p pm g k vR vT s w h (by omega) (by omega) hx hroom hl hf
        | some a =>
          have e : resS s k = ((a : Int), 0, { s with told := s.told.tail, L := putAt s.L (lb s.L a) ⟨a, k⟩ }) := by
            unfold resS; rw [if_neg hn, if_pos ⟨hx, by omega⟩, Int.toNat_natCast, hl]
          rw [e]
          exact reserve_some p pm g k a vR vT s w h (by omega) (by omega) hx hroom hl
      · have e : resS s k = (0, 4, { s with told := s.told.tail, refused := s.refused + 1 }) := by
          unfold resS; rw [if_neg hn, if_neg (fun h => by omega)]
        rw [e]
        exact reserve_full p pm g k vR vT s w h (by omega) (by omega) hx (by omega) hf
    · have e : resS s k = (0, 4, { s with told := s.told.tail, refused := s.refused + 1 }) := by
        unfold resS; rw [if_neg hn, if_neg (fun h => by rw [hx] at h; cases h.1)]
      rw [e]
      exact reserve_told p pm g k vR vT s w h (by omega) (by omega) hx hf
end Go.Proofs.Ytjcnaefgffnphaa
