/- What is done with each of some addresses in the reference's ledger; the two ledgers lie apart. -/
import Derived.Test.YtgkloacfickeaaaRefDrop
namespace Go.Proofs.Ytgkloacfickeaaa
open Go.RowKit
set_option linter.unusedVariables false

theorem own_type {w : World} {base : Nat} {e : TypeId} {size n k : Nat} {v : Value} {xs : List Value} (h : w.ownsRow base e size v n xs) (hk : v.ownBlock = some k) : base ≤ k ∧ k < w.heap.size ∧ ∃ cs, w.heap[k]? = some (.cells cs e (0, 0)) := by
  rcases h.2 with ⟨rfl, _⟩ | ⟨g', cap, cur, rfl, hb, hgg, _⟩
  · simp [Value.ownBlock] at hk
  · simp [Value.ownBlock] at hk
    subst hk
    exact ⟨hb, (Array.getElem?_eq_some_iff.1 hgg).1, cur, hgg⟩
section
variable {w w' : World} {base p q : Nat} {v vL vH : Value} {es es' : List Ent}
/-- The two ledgers' blocks are apart: their types differ. -/
theorem sep (hL : Led w base p v es) (hR : Ref w base q vL vH es') {k : Nat} (h : LS p v k) (h' : RS q vL vH k) : False := by
  have h1 : ∃ cs t, w.heap[k]? = some (.cells cs t (0, 0)) ∧ (t = 27 ∨ t = 55) := by
    rcases h with rfl | h
    · exact ⟨_, _, hL.2.1, .inl rfl⟩
    · obtain ⟨_, _, cs, hc⟩ := own_type hL.2.2 h
      exact ⟨cs, 55, hc, .inr rfl⟩
  have h2 : ∃ cs t, w.heap[k]? = some (.cells cs t (0, 0)) ∧ (t = 32 ∨ t = 35 ∨ t = 4) := by
    rcases h' with rfl | h | h
    · exact ⟨_, _, hR.2.1, .inl rfl⟩
    · obtain ⟨_, _, cs, hc⟩ := own_type hR.2.2.1 h
      exact ⟨cs, 35, hc, .inr (.inl rfl)⟩
    · obtain ⟨_, _, cs, hc⟩ := own_type hR.2.2.2 h
      exact ⟨cs, 4, hc, .inr (.inr rfl)⟩
  obtain ⟨_, t, h1, ht⟩ := h1
  obtain ⟨_, t', h2, ht'⟩ := h2
  rw [h1] at h2
  simp only [Option.some.injEq, Obj.cells.injEq] at h2
  obtain ⟨_, rfl, _⟩ := h2
  rcases ht with rfl | rfl <;> rcases ht' with h | h | h <;> exact absurd h (by decide)
theorem Ref.base_le (hR : Ref w base q vL vH es') {k : Nat} (h : RS q vL vH k) : base ≤ k := by
  rcases h with rfl | h | h
  · exact hR.1
  · exact (own_type hR.2.2.1 h).1
  · exact (own_type hR.2.2.2 h).1
theorem Led.base_le (hL : Led w base p v es) {k : Nat} (h : LS p v k) : base ≤ k := by
  rcases h with rfl | h
  · exact hL.1
  · exact (own_type hL.2.2 h).1
theorem Ref.rs_lt (hR : Ref w base q vL vH es') {k : Nat} (h : RS q vL vH k) : k < w.heap.size := by
  rcases h with rfl | h | h
  · exact hR.lt
  · exact (own_type hR.2.2.1 h).2.1
  · exact (own_type hR.2.2.2 h).2.1
theorem Ref.keep38 (hR : Ref w base q vL vH es') {b : Nat} {cs : Array Value} (hX : w.heap[b]? = some (.cells cs 38 (0, 0))) (hm : Mod (RS q vL vH) w w') : w'.heap[b]? = some (.cells cs 38 (0, 0)) := by
  refine (hm.block b (Array.getElem?_eq_some_iff.1 hX).1 (fun h => ?_)).trans hX
  have h2 : ∃ cs t, w.heap[b]? = some (.cells cs t (0, 0)) ∧ (t = 32 ∨ t = 35 ∨ t = 4) := by
    rcases h with rfl | h | h
    · exact ⟨_, _, hR.2.1, .inl rfl⟩
    · obtain ⟨_, _, cs, hc⟩ := own_type hR.2.2.1 h
      exact ⟨cs, 35, hc, .inr (.inl rfl)⟩
    · obtain ⟨_, _, cs, hc⟩ := own_type hR.2.2.2 h
      exact ⟨cs, 4, hc, .inr (.inr rfl)⟩
  obtain ⟨_, t', h2, ht'⟩ := h2
  rw [hX] at h2
  simp only [Option.some.injEq, Obj.cells.injEq] at h2
  obtain ⟨_, rfl, _⟩ := h2
  rcases ht' with h | h | h <;> exact absurd h (by decide)
theorem Led.of_ref (hL : Led w base p v es) (hR : Ref w base q vL vH es') (hm : Mod (RS q vL vH) w w') : Led w' base p v es := hL.mod hm (fun h' => sep hL hR (.inl rfl) h') (fun k hk h' => sep hL hR (.inr hk) h')
theorem Ref.of_led (hR : Ref w base q vL vH es') (hL : Led w base p v es) (hm : Mod (LS p v) w w') : Ref w' base q vL vH es' := hR.mod hm (fun _ h h' => sep hL hR h' h)
theorem Ref.below_mod (hR : Ref w base q vL vH es') (hm : Mod (RS q vL vH) w w') : Below base w w' := hm.below (fun _ h => hR.base_le h) (Nat.le_of_lt (Nat.lt_of_le_of_lt hR.1 hR.lt))
theorem Led.below_mod (hL : Led w base p v es) (hm : Mod (LS p v) w w') : Below base w w' := hm.below (fun _ h => hL.base_le h) (Nat.le_of_lt (Nat.lt_of_le_of_lt hL.1 hL.lt))
end

theorem eachS_one {act : List Ent → Nat → Int × List Ent} {es : List Ent} {l : List Int} {k : Nat} {t : Int} (ht : l[k]? = some t) (h0 : (oneS act es t).1 = 0) :
    eachS act es (l.drop k) = eachS act (oneS act es t).2 (l.drop (k + 1)) := by
  unfold oneS at h0 ⊢
  cases hf : found es t
  · rw [hf] at h0; simp at h0
  · rw [hf, if_pos rfl] at h0
    rw [if_pos rfl]
    exact eachS_go ht hf h0
theorem eachS_stop {act : List Ent → Nat → Int × List Ent} {es : List Ent} {l : List Int} {k : Nat} {t : Int} (ht : l[k]? = some t) (h0 : ¬ (oneS act es t).1 = 0) :
    eachS act es (l.drop k) = oneS act es t := by
  unfold oneS at h0 ⊢
  cases hf : found es t
  · rw [eachS_none ht hf]; simp
  · rw [hf, if_pos rfl] at h0
    rw [if_pos rfl]
    exact eachS_err ht hf h0
theorem fit_drop1 {es : List Ent} (h : Fit es) (t : Int) : Fit (oneS dropA es t).2 ∧ (oneS dropA es t).2.length ≤ es.length := by
  unfold oneS dropA
  split
  · exact ⟨fit_erase h _, by rw [List.length_eraseIdx]; split <;> omega⟩
  · exact ⟨h, Nat.le_refl _⟩
theorem fit_turn1 {es : List Ent} (h : Fit es) (held : Bool) (no t : Int) : Fit (oneS (turnA held no) es t).2 ∧ (oneS (turnA held no) es t).2.length ≤ es.length := by
  unfold oneS
  split
  · rename_i hf
    obtain ⟨e, he, _⟩ := found_some hf
    rw [turnA_some he]
    exact ⟨fit_turn h he held, by rw [List.length_set]; exact Nat.le_refl _⟩
  · exact ⟨h, Nat.le_refl _⟩

/-- Addresses that a call may read, in a block ahead of base. -/
def AdsB (w : World) (base : Nat) (A : Option Addr) (n : Nat) (xs : List Int) : Prop :=
  xs.length = n ∧ (0 < n → ∃ ad, A = some ad ∧ ad.block < base ∧ ∀ (j : Nat) (t : Int), xs[j]? = some t → w.cell? (ad.add j) = some (.int .u64 t))

/-- Both ledgers stand, and nothing ahead of base was written. -/
def EachPost (r : Int × List Ent) (p q base b : Nat) (cs : Array Value) (v : Value) (es0 : List Ent) (w : World) (e : Ending) (w' : World) : Prop :=
  e = .returned (.int .i64 r.1) ∧ ∃ vL' vH', Ref w' base q vL' vH' r.2 ∧ Led w' base p v es0 ∧ Below base w w' ∧ w'.heap[b]? = some (.cells cs 38 (0, 0))

set_option maxHeartbeats 2000000 in
theorem reach_drop (p q base n c : Nat) (A : Option Addr) (xs : List Int) (v vL vH : Value) (es es0 : List Ent) (w : World) (hlen : es.length ≤ 1000000) (hs : Fit es) (hR : Ref w base q vL vH es) (hL : Led w base p v es0)
    (hA : AdsB w base A n xs) (hn : n ≤ 9223372036854775807) (b : Nat) (cs : Array Value) (hX : w.heap[b]? = some (.cells cs 38 (0, 0))) :
    Calls Try.prog 20 #[.slice A n c, .func (.func 21) #[.pointer (some ⟨q, 0, none⟩)] #[]] w (EachPost (eachS dropA es xs) p q base b cs v es0 w) := by
  have HX := Lib.hid hA.1
  have HZ := Lib.hid hX
  have HA := Lib.hid hA.2
  have HL := Lib.hid hL
  have HR := Lib.hid hR
  have HS := Lib.hid hs
  clear hA hL hR hs hX
  go_enter Try.func20, Try.ntmps20
  go_wp2
  go_loopw [10] (fun i wr => ∃ (k : Nat) (vLk vHk : Value) (ek : List Ent), k ≤ n ∧ i = .int .i64 k ∧ eachS dropA es xs = eachS dropA ek (xs.drop k) ∧ Ref wr base q vLk vHk ek ∧ Led wr base p v es0 ∧ Fit ek ∧ ek.length ≤ 1000000 ∧ Below base w wr ∧ wr.heap[b]? = some (.cells cs 38 (0, 0)))
    (fun i _ => n - (intOf i).toNat)
  case atStart => exact ⟨0, vL, vH, es, Nat.zero_le _, rfl, rfl, HR.out, HL.out, HS.out, hlen, Below.refl _ _, HZ.out⟩
  case round =>
    obtain ⟨k, vLk, vHk, ek, hk, rfl, heq, hRk, hLk, hFk, hlk, hM, hZk⟩ := hrel
    have HEQ := Lib.hid heq
    have HRK := Lib.hid hRk
    have HLK := Lib.hid hLk
    have HFK := Lib.hid hFk
    have HM := Lib.hid hM
    have HZK := Lib.hid hZk
    clear heq hRk hLk hFk hM hZk
    by_cases hlt : k < n
    · obtain ⟨ad, rfl, had, hcell⟩ := HA.out (by omega)
      obtain ⟨t, ht⟩ : ∃ t, xs[k]? = some t := ⟨xs[k]'(by rw [HX.out]; exact hlt), by simp⟩
      have hc := (HM.out.cell (p := ad.add k) (by rw [block_of_add]; exact had)).trans (hcell k t ht)
      have hkI : (k : Int) < n := by omega
      have HT := Lib.hid ht
      clear ht hcell had
      obtain ⟨r1, hr1⟩ : ∃ r1, (oneS dropA ek t).1 = r1 := ⟨_, rfl⟩
      have H1 := Lib.hid hr1
      clear hr1
      have HH := Lib.hid (rdrop_any q base vLk vHk ek t wr hlk HFK.out HRK.out)
      by_cases h0 : r1 = 0
      · subst h0
        go_wp2_with (go_at_call 21; refine HH.out.mono ?_; rintro r w2 ⟨hre, vL2, vH2, hR2, hm2⟩; rw [H1.out] at hre; subst hre)
        have HR2 := Lib.hid hR2
        have HM2 := Lib.hid hm2
        clear hR2 hm2
        go_roundw
        case rel =>
          exact ⟨k + 1, vL2, vH2, (oneS dropA ek t).2, by omega, by go_num, HEQ.out.trans (eachS_one HT.out H1.out), HR2.out, HLK.out.of_ref HRK.out HM2.out, (fit_drop1 HFK.out t).1, Nat.le_trans (fit_drop1 HFK.out t).2 hlk, HM.out.trans (HRK.out.below_mod HM2.out), HRK.out.keep38 HZK.out HM2.out⟩
        case measure => simp [intOf]; omega
      · have hbe : (r1 == 0) = false := by simpa using h0
        go_wp2_with (go_at_call 21; refine HH.out.mono ?_; rintro r w2 ⟨hre, vL2, vH2, hR2, hm2⟩; rw [H1.out] at hre; subst hre)
        have HR2 := Lib.hid hR2
        have HM2 := Lib.hid hm2
        clear hR2 hm2
        go_ret
        refine ⟨?_, vL2, vH2, ?_, HLK.out.of_ref HRK.out HM2.out, HM.out.trans (HRK.out.below_mod HM2.out), HRK.out.keep38 HZK.out HM2.out⟩
        · rw [HEQ.out, eachS_stop HT.out (by rw [H1.out]; exact h0), H1.out]; rfl
        · rw [HEQ.out, eachS_stop HT.out (by rw [H1.out]; exact h0)]; exact HR2.out
    · obtain rfl : k = n := by omega
      have hnil : xs.drop k = [] := List.drop_eq_nil_of_le (by rw [HX.out]; exact Nat.le_refl _)
      have HN := Lib.hid hnil
      clear hnil
      go_wp2
      go_ret
      refine ⟨?_, vLk, vHk, ?_, HLK.out, HM.out, HZK.out⟩
      · rw [HEQ.out, HN.out]; rfl
      · rw [HEQ.out, HN.out]; exact HRK.out

set_option maxHeartbeats 2000000 in
theorem reach_hold (p q base n c : Nat) (A : Option Addr) (xs : List Int) (v vL vH : Value) (es es0 : List Ent) (w : World) (hlen : es.length ≤ 1000000) (hs : Fit es) (hR : Ref w base q vL vH es) (hL : Led w base p v es0)
    (hA : AdsB w base A n xs) (hn : n ≤ 9223372036854775807) (b : Nat) (cs : Array Value) (hX : w.heap[b]? = some (.cells cs 38 (0, 0))) :
    Calls Try.prog 20 #[.slice A n c, .func (.func 22) #[.pointer (some ⟨q, 0, none⟩)] #[]] w (EachPost (eachS (turnA true 7) es xs) p q base b cs v es0 w) := by
  have HX := Lib.hid hA.1
  have HZ := Lib.hid hX
  have HA := Lib.hid hA.2
  have HL := Lib.hid hL
  have HR := Lib.hid hR
  have HS := Lib.hid hs
  clear hA hL hR hs hX
  go_enter Try.func20, Try.ntmps20
  go_wp2
  go_loopw [10] (fun i wr => ∃ (k : Nat) (vLk vHk : Value) (ek : List Ent), k ≤ n ∧ i = .int .i64 k ∧ eachS (turnA true 7) es xs = eachS (turnA true 7) ek (xs.drop k) ∧ Ref wr base q vLk vHk ek ∧ Led wr base p v es0 ∧ Fit ek ∧ ek.length ≤ 1000000 ∧ Below base w wr ∧ wr.heap[b]? = some (.cells cs 38 (0, 0)))
    (fun i _ => n - (intOf i).toNat)
  case atStart => exact ⟨0, vL, vH, es, Nat.zero_le _, rfl, rfl, HR.out, HL.out, HS.out, hlen, Below.refl _ _, HZ.out⟩
  case round =>
    obtain ⟨k, vLk, vHk, ek, hk, rfl, heq, hRk, hLk, hFk, hlk, hM, hZk⟩ := hrel
    have HEQ := Lib.hid heq
    have HRK := Lib.hid hRk
    have HLK := Lib.hid hLk
    have HFK := Lib.hid hFk
    have HM := Lib.hid hM
    have HZK := Lib.hid hZk
    clear heq hRk hLk hFk hM hZk
    by_cases hlt : k < n
    · obtain ⟨ad, rfl, had, hcell⟩ := HA.out (by omega)
      obtain ⟨t, ht⟩ : ∃ t, xs[k]? = some t := ⟨xs[k]'(by rw [HX.out]; exact hlt), by simp⟩
      have hc := (HM.out.cell (p := ad.add k) (by rw [block_of_add]; exact had)).trans (hcell k t ht)
      have hkI : (k : Int) < n := by omega
      have HT := Lib.hid ht
      clear ht hcell had
      obtain ⟨r1, hr1⟩ : ∃ r1, (oneS (turnA true 7) ek t).1 = r1 := ⟨_, rfl⟩
      have H1 := Lib.hid hr1
      clear hr1
      have HH := Lib.hid (rhold_any q base vLk vHk ek t wr hlk HFK.out HRK.out)
      by_cases h0 : r1 = 0
      · subst h0
        go_wp2_with (go_at_call 22; refine HH.out.mono ?_; rintro r w2 ⟨hre, vL2, vH2, hR2, hm2⟩; rw [H1.out] at hre; subst hre)
        have HR2 := Lib.hid hR2
        have HM2 := Lib.hid hm2
        clear hR2 hm2
        go_roundw
        case rel =>
          exact ⟨k + 1, vL2, vH2, (oneS (turnA true 7) ek t).2, by omega, by go_num, HEQ.out.trans (eachS_one HT.out H1.out), HR2.out, HLK.out.of_ref HRK.out HM2.out, (fit_turn1 HFK.out true 7 t).1, Nat.le_trans (fit_turn1 HFK.out true 7 t).2 hlk, HM.out.trans (HRK.out.below_mod HM2.out), HRK.out.keep38 HZK.out HM2.out⟩
        case measure => simp [intOf]; omega
      · have hbe : (r1 == 0) = false := by simpa using h0
        go_wp2_with (go_at_call 22; refine HH.out.mono ?_; rintro r w2 ⟨hre, vL2, vH2, hR2, hm2⟩; rw [H1.out] at hre; subst hre)
        have HR2 := Lib.hid hR2
        have HM2 := Lib.hid hm2
        clear hR2 hm2
        go_ret
        refine ⟨?_, vL2, vH2, ?_, HLK.out.of_ref HRK.out HM2.out, HM.out.trans (HRK.out.below_mod HM2.out), HRK.out.keep38 HZK.out HM2.out⟩
        · rw [HEQ.out, eachS_stop HT.out (by rw [H1.out]; exact h0), H1.out]; rfl
        · rw [HEQ.out, eachS_stop HT.out (by rw [H1.out]; exact h0)]; exact HR2.out
    · obtain rfl : k = n := by omega
      have hnil : xs.drop k = [] := List.drop_eq_nil_of_le (by rw [HX.out]; exact Nat.le_refl _)
      have HN := Lib.hid hnil
      clear hnil
      go_wp2
      go_ret
      refine ⟨?_, vLk, vHk, ?_, HLK.out, HM.out, HZK.out⟩
      · rw [HEQ.out, HN.out]; rfl
      · rw [HEQ.out, HN.out]; exact HRK.out

set_option maxHeartbeats 2000000 in
theorem reach_let (p q base n c : Nat) (A : Option Addr) (xs : List Int) (v vL vH : Value) (es es0 : List Ent) (w : World) (hlen : es.length ≤ 1000000) (hs : Fit es) (hR : Ref w base q vL vH es) (hL : Led w base p v es0)
    (hA : AdsB w base A n xs) (hn : n ≤ 9223372036854775807) (b : Nat) (cs : Array Value) (hX : w.heap[b]? = some (.cells cs 38 (0, 0))) :
    Calls Try.prog 20 #[.slice A n c, .func (.func 23) #[.pointer (some ⟨q, 0, none⟩)] #[]] w (EachPost (eachS (turnA false 8) es xs) p q base b cs v es0 w) := by
  have HX := Lib.hid hA.1
  have HZ := Lib.hid hX
  have HA := Lib.hid hA.2
  have HL := Lib.hid hL
  have HR := Lib.hid hR
  have HS := Lib.hid hs
  clear hA hL hR hs hX
  go_enter Try.func20, Try.ntmps20
  go_wp2
  go_loopw [10] (fun i wr => ∃ (k : Nat) (vLk vHk : Value) (ek : List Ent), k ≤ n ∧ i = .int .i64 k ∧ eachS (turnA false 8) es xs = eachS (turnA false 8) ek (xs.drop k) ∧ Ref wr base q vLk vHk ek ∧ Led wr base p v es0 ∧ Fit ek ∧ ek.length ≤ 1000000 ∧ Below base w wr ∧ wr.heap[b]? = some (.cells cs 38 (0, 0)))
    (fun i _ => n - (intOf i).toNat)
  case atStart => exact ⟨0, vL, vH, es, Nat.zero_le _, rfl, rfl, HR.out, HL.out, HS.out, hlen, Below.refl _ _, HZ.out⟩
  case round =>
    obtain ⟨k, vLk, vHk, ek, hk, rfl, heq, hRk, hLk, hFk, hlk, hM, hZk⟩ := hrel
    have HEQ := Lib.hid heq
    have HRK := Lib.hid hRk
    have HLK := Lib.hid hLk
    have HFK := Lib.hid hFk
    have HM := Lib.hid hM
    have HZK := Lib.hid hZk
    clear heq hRk hLk hFk hM hZk
    by_cases hlt : k < n
    · obtain ⟨ad, rfl, had, hcell⟩ := HA.out (by omega)
      obtain ⟨t, ht⟩ : ∃ t, xs[k]? = some t := ⟨xs[k]'(by rw [HX.out]; exact hlt), by simp⟩
      have hc := (HM.out.cell (p := ad.add k) (by rw [block_of_add]; exact had)).trans (hcell k t ht)
      have hkI : (k : Int) < n := by omega
      have HT := Lib.hid ht
      clear ht hcell had
      obtain ⟨r1, hr1⟩ : ∃ r1, (oneS (turnA false 8) ek t).1 = r1 := ⟨_, rfl⟩
      have H1 := Lib.hid hr1
      clear hr1
      have HH := Lib.hid (rlet_any q base vLk vHk ek t wr hlk HFK.out HRK.out)
      by_cases h0 : r1 = 0
      · subst h0
        go_wp2_with (go_at_call 23; refine HH.out.mono ?_; rintro r w2 ⟨hre, vL2, vH2, hR2, hm2⟩; rw [H1.out] at hre; subst hre)
        have HR2 := Lib.hid hR2
        have HM2 := Lib.hid hm2
        clear hR2 hm2
        go_roundw
        case rel =>
          exact ⟨k + 1, vL2, vH2, (oneS (turnA false 8) ek t).2, by omega, by go_num, HEQ.out.trans (eachS_one HT.out H1.out), HR2.out, HLK.out.of_ref HRK.out HM2.out, (fit_turn1 HFK.out false 8 t).1, Nat.le_trans (fit_turn1 HFK.out false 8 t).2 hlk, HM.out.trans (HRK.out.below_mod HM2.out), HRK.out.keep38 HZK.out HM2.out⟩
        case measure => simp [intOf]; omega
      · have hbe : (r1 == 0) = false := by simpa using h0
        go_wp2_with (go_at_call 23; refine HH.out.mono ?_; rintro r w2 ⟨hre, vL2, vH2, hR2, hm2⟩; rw [H1.out] at hre; subst hre)
        have HR2 := Lib.hid hR2
        have HM2 := Lib.hid hm2
        clear hR2 hm2
        go_ret
        refine ⟨?_, vL2, vH2, ?_, HLK.out.of_ref HRK.out HM2.out, HM.out.trans (HRK.out.below_mod HM2.out), HRK.out.keep38 HZK.out HM2.out⟩
        · rw [HEQ.out, eachS_stop HT.out (by rw [H1.out]; exact h0), H1.out]; rfl
        · rw [HEQ.out, eachS_stop HT.out (by rw [H1.out]; exact h0)]; exact HR2.out
    · obtain rfl : k = n := by omega
      have hnil : xs.drop k = [] := List.drop_eq_nil_of_le (by rw [HX.out]; exact Nat.le_refl _)
      have HN := Lib.hid hnil
      clear hnil
      go_wp2
      go_ret
      refine ⟨?_, vLk, vHk, ?_, HLK.out, HM.out, HZK.out⟩
      · rw [HEQ.out, HN.out]; rfl
      · rw [HEQ.out, HN.out]; exact HRK.out
end Go.Proofs.Ytgkloacfickeaaa
