/- The arena in memory; its small methods. -/
import Derived.Test.YtjcnaefgffnphaaSt
namespace Go.Proofs.Ytjcnaefgffnphaa
open Go.RowKit
set_option linter.unusedVariables false

/-- An arena at block p, part by part. -/
structure Ar0 (w : World) (p pm g : Nat) (vR vT : Value) (s : St) : Prop where
  at_ : w.heap[p]? = some (.cells #[.pointer (some ⟨pm, 0, none⟩), .int .i64 s.segs, .int .i64 s.limit, vR, vT, .int .i64 s.refused] 62 (0, 0))
  mks : Mk w pm g s.segs (cov s.L)
  regs : OwnR w 0 vR s.L
  told : Told w 0 vT s.told
  tg : vT.ownBlock ≠ some g
  ok : s.Ok
  few : s.refused ≤ 1000000

theorem ne_block {w : World} {a b t u : Nat} {x y : Array Value} (h : w.heap[a]? = some (.cells x t (0, 0))) (k : w.heap[b]? = some (.cells y u (0, 0))) (hne : t ≠ u) : a ≠ b := by
  rintro rfl
  rw [h] at k
  cases k
  exact hne rfl
theorem own_ne {w : World} {base b e u size n : Nat} {v : Value} {xs : List Value} {y : Array Value} (h : w.ownsRow base e size v n xs) (k : w.heap[b]? = some (.cells y u (0, 0))) (hne : e ≠ u) : v.ownBlock ≠ some b := by
  rcases h.2 with ⟨rfl, _⟩ | ⟨g, cap, cur, rfl, _, hg, _⟩
  · intro h; cases h
  · intro h; cases h; exact ne_block hg k hne rfl
theorem told_ne {w : World} {base b u : Nat} {v : Value} {ts : List Bool} {y : Array Value} (h : Told w base v ts) (k : w.heap[b]? = some (.cells y u (0, 0))) (hne : 4 ≠ u) : v.ownBlock ≠ some b := by
  obtain ⟨A, c, rfl, _, _, ⟨rfl, _⟩ | ⟨t, o, cur, rfl, hb, hg, _⟩⟩ := h
  · intro h; cases h
  · intro h; cases h; exact ne_block hg k hne rfl

section
variable {w w' : World} {p pm g : Nat} {vR vT : Value} {s : St}
theorem Ar0.plt (h : Ar0 w p pm g vR vT s) : p < w.heap.size := (Array.getElem?_eq_some_iff.1 h.at_).1
theorem Ar0.p_pm (h : Ar0 w p pm g vR vT s) : p ≠ pm := ne_block h.at_ h.mks.at_ (by decide)
theorem Ar0.p_g (h : Ar0 w p pm g vR vT s) : p ≠ g := by obtain ⟨_, h1, _⟩ := h.mks.row; exact ne_block h.at_ h1 (by decide)
theorem Ar0.c0 (h : Ar0 w p pm g vR vT s) : w.cell? ⟨p, 0, none⟩ = some (.pointer (some ⟨pm, 0, none⟩)) := by simp [World.cell?, h.at_]
theorem Ar0.c1 (h : Ar0 w p pm g vR vT s) : w.cell? ⟨p, 1, none⟩ = some (.int .i64 s.segs) := by simp [World.cell?, h.at_]
theorem Ar0.c2 (h : Ar0 w p pm g vR vT s) : w.cell? ⟨p, 2, none⟩ = some (.int .i64 s.limit) := by simp [World.cell?, h.at_]
theorem Ar0.c3 (h : Ar0 w p pm g vR vT s) : w.cell? ⟨p, 3, none⟩ = some vR := by simp [World.cell?, h.at_]
theorem Ar0.c4 (h : Ar0 w p pm g vR vT s) : w.cell? ⟨p, 4, none⟩ = some vT := by simp [World.cell?, h.at_]
theorem Ar0.c5 (h : Ar0 w p pm g vR vT s) : w.cell? ⟨p, 5, none⟩ = some (.int .i64 s.refused) := by simp [World.cell?, h.at_]
theorem Ar0.fr (h : Ar0 w p pm g vR vT s) (j : Nat) : w.frozen? ⟨p, j, none⟩ = false := by simp [World.frozen?, h.at_]
theorem Ar0.vR_ne (h : Ar0 w p pm g vR vT s) : vR.ownBlock ≠ some p ∧ vR.ownBlock ≠ some pm ∧ vR.ownBlock ≠ some g := by
  obtain ⟨_, h1, _⟩ := h.mks.row
  exact ⟨own_ne h.regs h.at_ (by decide), own_ne h.regs h.mks.at_ (by decide), own_ne h.regs h1 (by decide)⟩
theorem Ar0.vT_ne (h : Ar0 w p pm g vR vT s) : vT.ownBlock ≠ some p ∧ vT.ownBlock ≠ some pm ∧ vT.ownBlock ≠ some g :=
  ⟨told_ne h.told h.at_ (by decide), told_ne h.told h.mks.at_ (by decide), h.tg⟩
/-- Regions and what was told lie apart. -/
theorem Ar0.RT (h : Ar0 w p pm g vR vT s) : ∀ k, vR.ownBlock = some k → vT.ownBlock ≠ some k := by
  intro k hk
  rcases h.regs.2 with ⟨rfl, _⟩ | ⟨b, cap, cur, rfl, _, hg, _⟩
  · cases hk
  · cases hk; exact told_ne h.told hg (by decide)
/-- The blocks of an arena. -/
def AB (p pm g : Nat) (vR vT : Value) : Nat → Prop := fun k => k = p ∨ k = pm ∨ k = g ∨ vR.ownBlock = some k ∨ vT.ownBlock = some k
theorem Ar0.mod {S : Nat → Prop} (h : Ar0 w p pm g vR vT s) (hm : Mod S w w') (hS : ∀ k, AB p pm g vR vT k → ¬ S k) : Ar0 w' p pm g vR vT s :=
  ⟨(hm.block p h.plt (hS _ (.inl rfl))).trans h.at_, h.mks.mod hm (hS _ (.inr (.inl rfl))) (hS _ (.inr (.inr (.inl rfl)))), h.regs.mod hm (fun k hk => hS k (.inr (.inr (.inr (.inl hk))))),
    h.told.mod hm (fun k hk => hS k (.inr (.inr (.inr (.inr hk))))), h.tg, h.ok, h.few⟩
theorem Ar0.lt (h : Ar0 w p pm g vR vT s) : ∀ k, AB p pm g vR vT k → k < w.heap.size := by
  rintro k (rfl | rfl | rfl | hk | hk)
  · exact h.plt
  · exact h.mks.plt
  · exact h.mks.glt
  · exact (h.regs.lt k hk).2
  · exact (h.told.lt k hk).2
theorem Ar0.below (h : Ar0 w p pm g vR vT s) (hb : Below w.heap.size w w') : Ar0 w' p pm g vR vT s :=
  h.mod (S := fun _ => False) (Mod.of_below hb (Nat.le_refl _)) (fun _ _ h => h)
theorem Mk.drew {w : World} {p g n : Nat} {f : Nat → Bool} (h : Mk w p g n f) : Mk w.drew p g n f := h.below (Below.refl _ _).drew h.plt h.glt
theorem Ar0.drew (h : Ar0 w p pm g vR vT s) : Ar0 w.drew p pm g vR vT s := h.below (Below.refl _ _).drew
theorem Ar0.drewN (h : Ar0 w p pm g vR vT s) (n : Nat) : Ar0 (w.drewN n) p pm g vR vT s := h.below (below_drewN (Below.refl _ _) n)
/-- A store of what was told, and of regions, and of how often it refused. -/
theorem Ar0.setTold (h : Ar0 w p pm g vR vT s) (vT' : Value) (ts : List Bool) (hT : Told w 0 vT' ts) (hg : vT'.ownBlock ≠ some g) (hp : vT'.ownBlock ≠ some p) (hl : ts.length ≤ 1000) :
    Ar0 (w.setCell ⟨p, 4, none⟩ vT') p pm g vR vT' { s with told := ts } := by
  have hm : Mod (fun k => k = p) w (w.setCell ⟨p, 4, none⟩ vT') := (Mod.refl (fun k => k = p) w).setCell (p := ⟨p, 4, none⟩) (fun _ => rfl) _
  refine ⟨?_, h.mks.mod hm (fun e => h.p_pm e.symm) (fun e => h.p_g e.symm), h.regs.mod hm (fun k hk e => h.vR_ne.1 (by rw [← e]; exact hk)), hT.mod hm (fun k hk e => hp (by rw [← e]; exact hk)), hg, ⟨h.ok.s1, h.ok.s2, h.ok.lim, h.ok.good, hl⟩, h.few⟩
  rw [heap_setCell_same w p 4 _ 62 vT' h.at_]; rfl
theorem Ar0.setRef (h : Ar0 w p pm g vR vT s) (hl : s.refused + 1 ≤ 1000000) : Ar0 (w.setCell ⟨p, 5, none⟩ (.int .i64 ((s.refused : Int) + 1))) p pm g vR vT { s with refused := s.refused + 1 } := by
  have hm : Mod (fun k => k = p) w (w.setCell ⟨p, 5, none⟩ (.int .i64 ((s.refused : Int) + 1))) := (Mod.refl (fun k => k = p) w).setCell (p := ⟨p, 5, none⟩) (fun _ => rfl) _
  refine ⟨?_, h.mks.mod hm (fun e => h.p_pm e.symm) (fun e => h.p_g e.symm), h.regs.mod hm (fun k hk e => h.vR_ne.1 (by rw [← e]; exact hk)), h.told.mod hm (fun k hk e => h.vT_ne.1 (by rw [← e]; exact hk)), h.tg, ⟨h.ok.s1, h.ok.s2, h.ok.lim, h.ok.good, h.ok.told⟩, hl⟩
  rw [heap_setCell_same w p 5 _ 62 _ h.at_]
  simp
end

theorem next_any (p pm g : Nat) (vR vT : Value) (s : St) (w : World) (h : Ar0 w p pm g vR vT s) :
    Calls Try.prog 27 #[.pointer (some ⟨p, 0, none⟩)] w fun r w' => r = .returned (.bool (s.told.headD false)) ∧
      ∃ vT', Ar0 w' p pm g vR vT' { s with told := s.told.tail } ∧ Mod (fun k => k = p) w w' ∧ vT'.ownBlock = vT.ownBlock := by
  have hc4 := h.c4
  have hf4 := h.fr 4
  cases hts : s.told with
  | nil =>
    obtain ⟨A, c, rfl, _, _, _⟩ := h.told
    rw [hts] at hc4
    have HF : Hid (Ar0 w p pm g vR (.slice A s.told.length c) { s with told := s.told.tail }) := by
      have e : ({ s with told := s.told.tail } : St) = s := by rw [hts]; simp only [List.tail_nil]; rw [← hts]
      rw [e]; exact h
    rw [hts] at HF
    clear h hts
    simp only [List.length_nil] at hc4 HF
    go_enter Try.func27, Try.ntmps27
    go_wp2
    go_ret
    exact ⟨rfl, _, HF.out, Mod.refl _ _, by cases A <;> rfl⟩
  | cons x ts =>
    have hT := h.told
    rw [hts] at hT
    obtain ⟨t, o, c, rfl, hc1, hcm, hx, hT'⟩ := hT.head
    have HF := Lib.hid (h.setTold _ ts hT' (by have := h.tg; split <;> exact this) (by have := h.vT_ne.1; split <;> exact this) (by have := h.ok.told; rw [hts] at this; simp at this; omega))
    have hc1I : (1 : Int) ≤ (ts.length : Int) + 1 := by omega
    have hc2I : ((ts.length : Int) + 1 == 0) = false := by simp; omega
    have hc3 : 1 ≤ ts.length + 1 := by omega
    have hc4' : 1 ≤ c := by omega
    have hE : Hid (∀ A, (Value.slice (some (if c = 1 then ⟨t, o, none⟩ else ⟨t, o + 1, none⟩)) A (c - 1)).ownBlock = some t) := Lib.hid (fun A => by split <;> rfl)
    have HM : Hid (∀ v, Mod (fun k => k = p) w (w.setCell ⟨p, 4, none⟩ v)) := Lib.hid (fun v => (Mod.refl (fun k => k = p) w).setCell (p := ⟨p, 4, none⟩) (fun _ => rfl) _)
    clear h hts hT hT'
    by_cases hc : c = 1
    · rw [if_pos hc] at HF
      subst hc
      obtain rfl : ts = [] := List.eq_nil_of_length_eq_zero (by omega)
      simp only [List.length_nil] at *
      go_enter Try.func27, Try.ntmps27
      go_wp2
      go_ret
      exact ⟨rfl, _, HF.out, HM.out _, rfl⟩
    · rw [if_neg hc] at HF
      go_enter Try.func27, Try.ntmps27
      go_wp2
      go_ret
      exact ⟨rfl, _, HF.out, HM.out _, rfl⟩

theorem given_any (p pm g : Nat) (vR vT : Value) (s : St) (w : World) (h : Ar0 w p pm g vR vT s) :
    Calls Try.prog 13 #[.pointer (some ⟨p, 0, none⟩)] w fun r w' => r = .returned (.int .i64 (given s.L)) ∧ ∃ n, w' = w.drewN n := by
  have hc0 := h.c0
  have hc1 := h.c1
  have HMK := Lib.hid h.mks
  have hfc := freeC_cov h.ok.good
  have hs2 := h.ok.s2
  have HFC := Lib.hid hfc
  have hle : freeC (cov s.L) s.segs ≤ s.segs := by omega
  clear hfc h
  go_enter Try.func13, Try.ntmps13
  go_wp2_with fail
  go_quiet ((go_at_call 33; exact Calls.quiet_of_same ((left_any pm g s.segs (cov s.L) _ (by exact HMK.out.below (below_drewN (Below.refl _ _) _) HMK.out.plt HMK.out.glt)).mono fun r w' ⟨a, b⟩ => ⟨a, b.symm⟩)))
  go_wp2
  go_ret
  exact ⟨ret_int (by have := HFC.out; omega), _, rfl⟩

theorem refused_any (p pm g : Nat) (vR vT : Value) (s : St) (w : World) (h : Ar0 w p pm g vR vT s) :
    Calls Try.prog 14 #[.pointer (some ⟨p, 0, none⟩)] w fun r w' => r = .returned (.int .i64 s.refused) ∧ w = w' := by
  have hc := h.c5
  clear h
  go_enter Try.func14, Try.ntmps14
  go_wp2
  go_ret
  exact ⟨rfl, rfl⟩

theorem find_any (p pm g : Nat) (vR vT : Value) (s : St) (t : Int) (w : World) (h : Ar0 w p pm g vR vT s) :
    Calls Try.prog 29 #[.pointer (some ⟨p, 0, none⟩), .int .i64 t] w fun r w' => r = .returned (.tuple #[.int .i64 (lb s.L t), .bool (found s.L t)]) ∧ Below w.heap.size w w' := by
  have hc := h.c3
  obtain ⟨A, c, rfl, _, _⟩ := h.regs.form
  have HB := Lib.hid (bs_any s.L A c 0 t w (by have := h.ok.len; omega) (good_rising h.ok.good) h.regs)
  clear h
  go_enter Try.func29, Try.ntmps29
  go_wp2_with (go_at_call 38; (with_reducible refine HB.out.mono ?_); rintro r w1 ⟨rfl, hb1⟩)
  go_ret2
  exact ⟨rfl, hb1⟩
end Go.Proofs.Ytjcnaefgffnphaa
