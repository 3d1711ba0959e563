/- The arena's Refuse and Release. -/
import Derived.Test.YtjcnaefgffnphaaRes
import Derived.Deep.RegionWith
namespace Go.Proofs.Ytjcnaefgffnphaa
open Go.RowKit
set_option linter.unusedVariables false

/-- No block is an arena's that was not, but for new ones. -/
def Fresh (w : World) (p pm g : Nat) (vR vT vR' vT' : Value) : Prop := ∀ k, AB p pm g vR' vT' k → AB p pm g vR vT k ∨ w.heap.size ≤ k
theorem Fresh.refl (w : World) (p pm g : Nat) (vR vT : Value) : Fresh w p pm g vR vT vR vT := fun _ h => .inl h

theorem ar_told {w w1 : World} {p pm g : Nat} {vR vT v' : Value} {s : St} {ts : List Bool} (h : Ar0 w p pm g vR vT s) (hm : Mod (fun k => vT.ownBlock = some k) w w1) (hT : Told w1 0 v' ts)
    (hv : v'.ownBlock = vT.ownBlock ∨ ∃ k, v'.ownBlock = some k ∧ w.heap.size ≤ k) (hl : ts.length ≤ 1000) :
    Ar0 (w1.setCell ⟨p, 4, none⟩ v') p pm g vR v' { s with told := ts } ∧ Mod (AB p pm g vR vT) w (w1.setCell ⟨p, 4, none⟩ v') ∧ Fresh w p pm g vR vT vR v' := by
  have hvp : ∀ k, AB p pm g vR vT k → vT.ownBlock ≠ some k → v'.ownBlock ≠ some k := by
    intro k hk hne
    rcases hv with e | ⟨j, e, hj⟩
    · rw [e]; exact hne
    · rw [e]; intro e2; cases e2; have := h.lt k hk; omega
  have hn := h.vT_ne
  have at1 := (hm.block p h.plt hn.1).trans h.at_
  have hm2 : Mod (fun k => k = p) w1 (w1.setCell ⟨p, 4, none⟩ v') := (Mod.refl (fun k => k = p) w1).setCell (p := ⟨p, 4, none⟩) (fun _ => rfl) _
  refine ⟨⟨?_, (h.mks.mod hm hn.2.1 hn.2.2).mod hm2 (fun e => h.p_pm e.symm) (fun e => h.p_g e.symm), (h.regs.mod hm (fun k hk => h.RT k hk)).mod hm2 (fun k hk e => h.vR_ne.1 (by rw [← e]; exact hk)),
    hT.mod hm2 (fun k hk e => hvp p (.inl rfl) hn.1 (by rw [← e]; exact hk)), hvp g (.inr (.inr (.inl rfl))) hn.2.2, ⟨h.ok.s1, h.ok.s2, h.ok.lim, h.ok.good, hl⟩, h.few⟩, ?_, ?_⟩
  · rw [heap_setCell_same w1 p 4 _ 62 v' at1]; rfl
  · exact (hm.mono (fun k _ hk => .inr (.inr (.inr (.inr hk))))).trans hm2 (fun k _ e => .inl e)
  · rintro k (e | e | e | e | e)
    · exact .inl (.inl e)
    · exact .inl (.inr (.inl e))
    · exact .inl (.inr (.inr (.inl e)))
    · exact .inl (.inr (.inr (.inr (.inl e))))
    · rcases hv with e2 | ⟨j, e2, hj⟩
      · exact .inl (.inr (.inr (.inr (.inr (by rw [← e2]; exact e)))))
      · rw [e2] at e; cases e; exact .inr hj

theorem ar_regs {w w2 : World} {p pm g : Nat} {vR vT v' : Value} {s : St} {L' : List Reg} (h : Ar0 w p pm g vR vT s) (hm : Mod (fun k => MS pm g k ∨ vR.ownBlock = some k) w w2)
    (hk : Mk w2 pm g s.segs (cov L')) (hR : OwnR w2 0 v' L') (hg : Good s.segs L') (hv : v'.ownBlock = vR.ownBlock ∨ ∃ k, v'.ownBlock = some k ∧ w.heap.size ≤ k) :
    Ar0 (w2.setCell ⟨p, 3, none⟩ v') p pm g v' vT { s with L := L' } ∧ Mod (AB p pm g vR vT) w (w2.setCell ⟨p, 3, none⟩ v') ∧ Fresh w p pm g vR vT v' vT := by
  have hn := h.vR_ne
  have hpS : ¬ (MS pm g p ∨ vR.ownBlock = some p) := by
    rintro ((e | e) | e)
    · exact h.p_pm e
    · exact h.p_g e
    · exact hn.1 e
  have at1 := (hm.block p h.plt hpS).trans h.at_
  have hm2 : Mod (fun k => k = p) w2 (w2.setCell ⟨p, 3, none⟩ v') := (Mod.refl (fun k => k = p) w2).setCell (p := ⟨p, 3, none⟩) (fun _ => rfl) _
  have hvp : v'.ownBlock ≠ some p := by
    rcases hv with e | ⟨j, e, hj⟩
    · rw [e]; exact hn.1
    · rw [e]; intro e2; cases e2; have := h.plt; omega
  refine ⟨⟨?_, hk.mod hm2 (fun e => h.p_pm e.symm) (fun e => h.p_g e.symm), hR.mod hm2 (fun k hk e => hvp (by rw [← e]; exact hk)),
    (h.told.mod hm (fun k hk hS => ?_)).mod hm2 (fun k hk e => h.vT_ne.1 (by rw [← e]; exact hk)), h.tg, ⟨h.ok.s1, h.ok.s2, h.ok.lim, hg, h.ok.told⟩, h.few⟩, ?_, ?_⟩
  · rw [heap_setCell_same w2 p 3 _ 62 v' at1]; rfl
  · rcases hS with (e | e) | e
    · exact h.vT_ne.2.1 (by rw [← e]; exact hk)
    · exact h.vT_ne.2.2 (by rw [← e]; exact hk)
    · exact h.RT k e hk
  · refine (hm.mono (fun k _ hk => ?_)).trans hm2 (fun k _ e => .inl e)
    rcases hk with (e | e) | e
    · exact .inr (.inl e)
    · exact .inr (.inr (.inl e))
    · exact .inr (.inr (.inr (.inl e)))
  · rintro k (e | e | e | e | e)
    · exact .inl (.inl e)
    · exact .inl (.inr (.inl e))
    · exact .inl (.inr (.inr (.inl e)))
    · rcases hv with e2 | ⟨j, e2, hj⟩
      · exact .inl (.inr (.inr (.inr (.inl (by rw [← e2]; exact e)))))
      · rw [e2] at e; cases e; exact .inr hj
    · exact .inl (.inr (.inr (.inr (.inr e))))

/-- What a call that works on an arena leaves. -/
def Left (w : World) (p pm g : Nat) (vR vT : Value) (s' : St) (w' : World) : Prop := ∃ vR' vT', Ar0 w' p pm g vR' vT' s' ∧ Mod (AB p pm g vR vT) w w' ∧ Fresh w p pm g vR vT vR' vT'

set_option maxHeartbeats 1000000 in
theorem refuse_any (p pm g : Nat) (vR vT : Value) (s : St) (bs : List Bool) (A2 : Option Addr) (c2 : Nat) (w : World) (h : Ar0 w p pm g vR vT s) (hr : Reads w w.heap.size 1 A2 bs.length (bs.map Value.bool)) (hl : bs.length ≤ 140737488355328) :
    Calls Try.prog 15 #[.pointer (some ⟨p, 0, none⟩), .slice A2 bs.length c2] w fun r w' => r = .returned (.int .i64 (rfsS s bs).1) ∧ Left w p pm g vR vT (rfsS s bs).2 w' := by
  have hc4 := h.c4
  have hT := h.told
  have hto := h.ok.told
  obtain ⟨A, c, rfl, hcm, hlc, _⟩ := h.told
  unfold maxLen at hcm
  by_cases hbig : 1000 < s.told.length + bs.length
  · have HF : Hid (rfsS s bs = (4, s)) := Lib.hid (by unfold rfsS; rw [if_pos hbig])
    have hbi : (1000 : Int) < (s.told.length : Int) + bs.length := by omega
    have HA := Lib.hid h
    clear h hT hr
    go_enter Try.func15, Try.ntmps15
    go_wp2
    go_ret
    rw [HF.out]
    exact ⟨rfl, _, _, HA.out, Mod.refl _ _, Fresh.refl _ _ _ _ _ _⟩
  · have HF : Hid (rfsS s bs = (0, { s with told := s.told ++ bs })) := Lib.hid (by unfold rfsS; rw [if_neg hbig])
    have hbi : (s.told.length : Int) + bs.length ≤ 1000 := by omega
    obtain ⟨v', w1, hrun, hT1, hg1, hv1⟩ := told_append hT (Nat.zero_le _) _ A2 c2 hr (by omega) 32
    have hm1 : Mod (fun k => (Value.slice A s.told.length c).ownBlock = some k) w w1 := (Mod.refl _ w).grown hg1 (fun k hk _ => hk)
    have hp1 := (hm1.block p h.plt h.vT_ne.1).trans h.at_
    have hc14 : w1.cell? ⟨p, 4, none⟩ = some (.slice A s.told.length c) := by simp [World.cell?, hp1]
    have hf14 : w1.frozen? ⟨p, 4, none⟩ = false := by simp [World.frozen?, hp1]
    have hE := ar_told h hm1 hT1 hv1 (by simp; omega)
    obtain ⟨A1, c1, rfl, _⟩ : ∃ A1 c1, v' = .slice A1 (s.told ++ bs).length c1 ∧ True := by obtain ⟨A1, c1, e, _⟩ := hT1; exact ⟨A1, c1, e, trivial⟩
    simp only [List.length_append] at hE hrun
    have HE := Lib.hid hE
    have HR := Lib.hid hrun
    clear hE h hT hr hT1 hg1 hv1 hm1 hp1 hrun
    go_enter Try.func15, Try.ntmps15
    go_wp2_with (at_builtin; refine Lib.wpList_append_run _ rfl (.tmp 22) (.tmp 23) _ _ rfl _ _ rfl rfl _ _ HR.out ?_)
    go_ret
    rw [HF.out]
    exact ⟨rfl, _, _, HE.out⟩

theorem found_at {L : List Reg} {t : Int} (h : found L t = true) : ∃ r, L[lb L t]? = some r ∧ (r.a : Int) = t := by
  unfold found at h
  split at h
  · rename_i e he; exact ⟨e, he, by simpa using h⟩
  · cases h

set_option maxHeartbeats 2000000 in
theorem release_any (p pm g : Nat) (vR vT : Value) (s : St) (t : Int) (w : World) (h : Ar0 w p pm g vR vT s) :
    Calls Try.prog 12 #[.pointer (some ⟨p, 0, none⟩), .int .i64 t] w fun r w' => r = .returned (.int .i64 (relS s t).1) ∧ Left w p pm g vR vT (relS s t).2 w' := by
  have HFI := Lib.hid (find_any p pm g vR vT s t w h)
  have HA := Lib.hid h
  cases hfd : found s.L t
  · have HF : Hid (relS s t = (5, s)) := Lib.hid (by unfold relS; rw [hfd]; rfl)
    rw [hfd] at HFI
    clear h hfd
    go_enter Try.func12, Try.ntmps12
    go_wp2_with (go_at_call 29; (with_reducible refine HFI.out.mono ?_); rintro r w1 ⟨rfl, hb1⟩)
    go_ret
    rw [HF.out]
    exact ⟨rfl, _, _, HA.out.below hb1, Mod.of_below hb1 (Nat.le_refl _), Fresh.refl _ _ _ _ _ _⟩
  · have HF : Hid (relS s t = (0, { s with L := s.L.eraseIdx (lb s.L t) })) := Lib.hid (by unfold relS; rw [hfd]; rfl)
    rw [hfd] at HFI
    obtain ⟨r, hr, rfl⟩ := found_at hfd
    obtain ⟨A, c, rfl, _, hcm⟩ := h.regs.form
    unfold maxLen at hcm
    have hgr := h.ok.good.2 r (List.mem_of_getElem? hr)
    have hs2 := h.ok.s2
    have hil : lb s.L (r.a : Int) < s.L.length := (List.getElem?_eq_some_iff.1 hr).1
    have hlen := h.ok.len
    have HR := Lib.hid hr
    obtain ⟨i, hi⟩ : ∃ i, i = lb s.L (r.a : Int) := ⟨_, rfl⟩
    rw [← hi] at HF HFI HR hil
    have HI := Lib.hid hi
    have hii : (i : Int) < s.L.length := by omega
    have hwr : IntKind.i64.wrap ((i : Int) + 1) = (i : Int) + 1 := IntWalk.i64_in _ (by omega)
    clear h hfd hr hi
    go_enter Try.func12, Try.ntmps12
    go_wp2_with (go_at_call 29; (with_reducible refine HFI.out.mono ?_); rintro r w1 ⟨rfl, hb1⟩)
    have hA1 := HA.out.below hb1
    obtain ⟨gr, hA, _, hgz, hx0, hx1, _⟩ := hA1.regs.at HR.out
    obtain rfl : A = _ := hA
    have hc0 := hA1.c0
    have hc3 := hA1.c3
    have HA1 := Lib.hid hA1
    have HB1 := Lib.hid hb1
    clear hA1 hb1
    go_region_with (go_at_call 31; refine (free_any pm g s.segs r.a r.n (cov s.L) _ (by omega) (by exact HA1.out.mks.drew) (by omega) (by omega) (good_in HA1.out.ok.good (List.mem_of_getElem? HR.out))).mono ?_; rintro r' w2 ⟨rfl, hm2, hk2⟩; have HM2 := Lib.hid hm2; have HK2 := Lib.hid hk2; clear hm2 hk2)
    all_goals
      have hnR := HA1.out.vR_ne
      have hmp : ∀ k, MS pm g k → k ≠ p := by
        rintro k (rfl | rfl)
        · exact fun e => HA1.out.p_pm e.symm
        · exact fun e => HA1.out.p_g e.symm
      have hp2 := (HM2.out.block p HA1.out.plt (fun e => hmp p e rfl)).trans HA1.out.drew.at_
      have hc23 : w2.cell? ⟨p, 3, none⟩ = some (.slice (some ⟨gr, 0, none⟩) s.L.length c) := by simp [World.cell?, hp2]
      have HO2 : Hid (OwnR w2 0 (.slice (some ⟨gr, 0, none⟩) s.L.length c) s.L) := Lib.hid (HA1.out.drew.regs.mod HM2.out (fun k hk hS => by
        rcases hS with e | e
        · exact hnR.2.1 (by rw [← e]; exact hk)
        · exact hnR.2.2 (by rw [← e]; exact hk)))
      have HP2 := Lib.hid hp2
      clear hp2 hmp hnR
      go_wp2_with fail
      refine (delete_any s.L _ c 0 i _ (by omega) HO2.out hil).mono ?_
      rintro r' w3 ⟨v', rfl, ho3, hg3, hv3⟩
      obtain ⟨A3, c3, rfl, _, _⟩ := ho3.form
      have hpz : p < w2.heap.size := Nat.lt_of_lt_of_le HA1.out.plt HM2.out.size
      have hp3 := (hg3.block p hpz (fun e => HA1.out.vR_ne.1 e.symm)).trans HP2.out
      have hc33 : w3.cell? ⟨p, 3, none⟩ = some (.slice (some ⟨gr, 0, none⟩) s.L.length c) := by simp [World.cell?, hp3]
      have hf33 : w3.frozen? ⟨p, 3, none⟩ = false := by simp [World.frozen?, hp3]
      have HO3 := Lib.hid ho3
      have HG3 := Lib.hid hg3
      have HV3 := Lib.hid hv3
      clear ho3 hg3 hv3 hp3
      go_wp2
      go_ret
      rw [HF.out]
      refine ⟨rfl, ?_⟩
      have hm3 : Mod (fun k => MS pm g k ∨ (Value.slice (some ⟨gr, 0, none⟩) s.L.length c).ownBlock = some k) w1 w3 :=
        ((Mod.refl (fun k => MS pm g k ∨ (Value.slice (some ⟨gr, 0, none⟩) s.L.length c).ownBlock = some k) w1).drew.trans HM2.out (fun k _ h => .inl h)).grown HG3.out (fun k hk _ => .inr hk)
      have hgMS : ∀ k, MS pm g k → (Value.slice (some ⟨gr, 0, none⟩) s.L.length c).ownBlock ≠ some k := by
        rintro k (rfl | rfl)
        · exact HA1.out.vR_ne.2.1
        · exact HA1.out.vR_ne.2.2
      have hk3 : Mk w3 pm g s.segs (cov (s.L.eraseIdx i)) :=
        (HK2.out.mod ((Mod.refl (fun k => (Value.slice (some ⟨gr, 0, none⟩) s.L.length c).ownBlock = some k) w2).grown HG3.out (fun k hk _ => hk)) (fun e => hgMS pm (.inl rfl) e) (fun e => hgMS g (.inr rfl) e)).congr (fun j _ => (cov_erase HA1.out.ok.good HR.out j).symm)
      have hE := ar_regs HA1.out hm3 hk3 HO3.out (good_erase HA1.out.ok.good) (.inl HV3.out)
      exact ⟨_, _, hE.1, (Mod.of_below HB1.out (Nat.le_refl _)).trans hE.2.1 (fun _ _ h => h), fun k hk => (hE.2.2 k hk).imp id (fun h => Nat.le_trans HB1.out.size h)⟩
end Go.Proofs.Ytjcnaefgffnphaa
