/- The reference's ledger: takes, at, one, At, Bytes. -/
import Derived.Test.YtgkloacfickeaaaAll
import Derived.Lib.QuietBelow
namespace Go.Proofs.Ytgkloacfickeaaa
open Go.RowKit
set_option linter.unusedVariables false

def helds (es : List Ent) : List Value := es.map fun e => .bool e.h

/-- The reference's ledger at block q: its two cells are slices that own the blocks, and whether each is held. -/
def Ref (w : World) (base q : Nat) (vL vH : Value) (es : List Ent) : Prop :=
  base ≤ q ∧ w.heap[q]? = some (.cells #[vL, vH] 32 (0, 0)) ∧ w.ownsRow base 35 3 vL es.length (blks es) ∧ w.ownsRow base 4 1 vH es.length (helds es)

section
variable {w w1 : World} {base q B : Nat} {vL vH : Value} {es : List Ent} {S : Nat → Prop}
theorem Ref.lt (h : Ref w base q vL vH es) : q < w.heap.size := (Array.getElem?_eq_some_iff.1 h.2.1).1
theorem Ref.cell0 (h : Ref w base q vL vH es) : w.cell? ⟨q, 0, none⟩ = some vL := by have := h.2.1; simp [World.cell?, this]
theorem Ref.cell1 (h : Ref w base q vL vH es) : w.cell? ⟨q, 1, none⟩ = some vH := by have := h.2.1; simp [World.cell?, this]
theorem Ref.frozen (h : Ref w base q vL vH es) (j : Nat) : w.frozen? ⟨q, j, none⟩ = false := by have := h.2.1; simp [World.frozen?, this]
theorem own_ne_of_type {g e t n size : Nat} {v : Value} {xs : List Value} {cs : Array Value} (h : w.ownsRow base e size v n xs) (hg : w.heap[g]? = some (.cells cs t (0, 0))) (hne : e ≠ t) : v.ownBlock ≠ some g := by
  intro hp
  rcases h.2 with ⟨rfl, _⟩ | ⟨g', cap, cur, rfl, _, hgg, _⟩
  · simp [Value.ownBlock] at hp
  · simp [Value.ownBlock] at hp
    subst hp
    rw [hgg] at hg
    simp at hg
    exact hne hg.2
theorem Ref.neL (h : Ref w base q vL vH es) : vL.ownBlock ≠ some q := own_ne_of_type h.2.2.1 h.2.1 (by omega)
theorem Ref.neH (h : Ref w base q vL vH es) : vH.ownBlock ≠ some q := own_ne_of_type h.2.2.2 h.2.1 (by omega)
/-- The blocks of the reference's ledger. -/
def RS (q : Nat) (vL vH : Value) (k : Nat) : Prop := k = q ∨ vL.ownBlock = some k ∨ vH.ownBlock = some k
theorem Ref.mod (h : Ref w base q vL vH es) (hm : Mod S w w1) (hS : ∀ k, RS q vL vH k → ¬ S k) : Ref w1 base q vL vH es :=
  ⟨h.1, (hm.block q h.lt (hS q (.inl rfl))).trans h.2.1, own_mod h.2.2.1 hm (fun k hk => hS k (.inr (.inl hk))), own_mod h.2.2.2 hm (fun k hk => hS k (.inr (.inr hk)))⟩
theorem Ref.below (h : Ref w base q vL vH es) (hb : Below B w w1) (hB : w.heap.size ≤ B) : Ref w1 base q vL vH es :=
  h.mod (S := fun _ => False) (Mod.of_below hb hB) (fun _ _ h => h)
theorem Ref.box (h : Ref w base q vL vH es) (o : Obj) : Ref (w.alloc o) base q vL vH es := h.mod ((Mod.refl (fun _ => False) w).alloc _) (fun _ _ h => h)
theorem Ref.at {k : Nat} {e : Ent} {A : Option Addr} {c : Nat} (h : Ref w base q (.slice A es.length c) vH es) (he : es[k]? = some e) :
    ∃ g, A = some ⟨g, 0, none⟩ ∧ g < w.heap.size ∧ w.cell? ⟨g, k * 3, none⟩ = some (.int .u64 e.a) ∧ w.cell? ⟨g, k * 3 + 1, none⟩ = some (.int .u64 e.n) ∧ w.cell? ⟨g, k * 3 + 2, none⟩ = some (.int .u64 e.al) := by
  have hk : k < es.length := (List.getElem?_eq_some_iff.1 he).1
  obtain ⟨g, rfl, _, hg, hc, _⟩ := own_at h.2.2.1 (by omega)
  refine ⟨g, rfl, hg, ?_, ?_, ?_⟩
  · exact (hc (k * 3) (by omega)).trans (getElem?_blks he 0 (by omega))
  · exact (hc (k * 3 + 1) (by omega)).trans (getElem?_blks he 1 (by omega))
  · exact (hc (k * 3 + 2) (by omega)).trans (getElem?_blks he 2 (by omega))
theorem Ref.heldAt {k : Nat} {e : Ent} {A : Option Addr} {c : Nat} (h : Ref w base q vL (.slice A es.length c) es) (he : es[k]? = some e) :
    ∃ g, A = some ⟨g, 0, none⟩ ∧ g < w.heap.size ∧ w.cell? ⟨g, k, none⟩ = some (.bool e.h) ∧ ∀ j, w.frozen? ⟨g, j, none⟩ = false := by
  have hk : k < es.length := (List.getElem?_eq_some_iff.1 he).1
  obtain ⟨g, rfl, _, hg, hc, hf⟩ := own_at h.2.2.2 (by omega)
  refine ⟨g, rfl, hg, (hc k (by omega)).trans ?_, hf⟩
  simp [helds, he]
end

theorem takes_any (a n al : Int) (w : World) : Calls Try.prog 39 #[.agg #[.int .u64 a, .int .u64 n, .int .u64 al]] w fun r w' => r = .returned (.int .u64 (max n 1)) ∧ Below w.heap.size w w' := by
  go_enter Try.func39, Try.ntmps39
  go_wp2
  all_goals
    go_ret
    exact ⟨ret_int (by omega), (Below.refl _ _).alloc (Nat.le_refl _) _⟩

/-- Where the reference finds the one that begins at an address; -1: nowhere. -/
def atI (es : List Ent) (t : Int) : Int := if found es t = true then (lb es t : Int) else -1

theorem atI_hit {es : List Ent} {t : Int} {k : Nat} {e : Ent} (hs : Rising es) (he : es[k]? = some e) (ha : e.a = t) : atI es t = k := by
  have hk : k < es.length := (List.getElem?_eq_some_iff.1 he).1
  have hlb : lb es t = k := lb_eq (by omega) (fun j x hx hj => by have := rising_lt hs hx he hj; omega) (fun x hx => by rw [he] at hx; cases hx; omega)
  have hf : found es t = true := by unfold found; rw [hlb, he]; simpa using ha
  unfold atI
  rw [if_pos hf, hlb]
theorem atI_miss {es : List Ent} {t : Int} (h : ∀ (k : Nat) (e : Ent), es[k]? = some e → e.a ≠ t) : atI es t = -1 := by
  have hf : found es t = false := by
    cases hf : found es t
    · rfl
    · obtain ⟨e, he, ha⟩ := found_some hf
      exact absurd ha (h _ e he)
  unfold atI
  rw [hf]; rfl

set_option maxHeartbeats 1000000 in
theorem rat_any (q base : Nat) (vL vH : Value) (es : List Ent) (t : Int) (w : World) (hlen : es.length ≤ 1000000) (hs : Rising es) (hR : Ref w base q vL vH es) :
    Calls Try.prog 37 #[.pointer (some ⟨q, 0, none⟩), .int .u64 t] w fun r w' => r = .returned (.int .i64 (atI es t)) ∧ Below w.heap.size w w' := by
  obtain ⟨A, c, rfl, _, _⟩ := own_form hR.2.2.1
  have hcell := hR.cell0
  have HR := Lib.hid hR
  have HS := Lib.hid hs
  clear hR hs
  go_enter Try.func37, Try.ntmps37
  go_wp2
  go_loopw [12] (fun i wr => ∃ k : Nat, k ≤ es.length ∧ i = .int .i64 k ∧ Below w.heap.size w wr ∧ ∀ (j : Nat) (e : Ent), j < k → es[j]? = some e → e.a ≠ t) (fun i _ => es.length - (intOf i).toNat)
  case atStart => exact ⟨0, Nat.zero_le _, rfl, Below.refl _ _, fun j _ h => by omega⟩
  case round =>
    obtain ⟨k, hk, rfl, hB, hno⟩ := hrel
    have HNO := Lib.hid hno
    clear hno
    by_cases hlt : k < es.length
    · obtain ⟨e, he⟩ : ∃ e, es[k]? = some e := ⟨es[k], by simp [hlt]⟩
      obtain ⟨g, rfl, hg, h0, h1, h2⟩ := HR.out.at he
      rw [← hB.cell (p := ⟨g, _, none⟩) hg] at h0 h1 h2
      have hki : (k : Int) < es.length := by omega
      have HE := Lib.hid he
      clear he
      by_cases hea : e.a = t
      · have hb : (e.a == t) = true := by simpa using hea
        have HA := Lib.hid hea
        clear hea
        go_wp2
        go_ret
        exact ⟨ret_int (atI_hit HS.out HE.out HA.out).symm, hB.alloc hB.size _⟩
      · have hb : (e.a == t) = false := by simpa using hea
        go_wp2
        go_roundw
        case rel =>
          refine ⟨k + 1, by omega, by go_num, hB.alloc hB.size _, fun j x hj hx => ?_⟩
          by_cases hjk : j = k
          · subst hjk; have := HE.out; rw [hx] at this; cases this; exact hea
          · exact HNO.out j x (by omega) hx
        case measure => simp [intOf]; omega
    · obtain rfl : k = es.length := by omega
      go_wp2
      go_ret
      exact ⟨ret_int (atI_miss fun j e he => HNO.out j e (List.getElem?_eq_some_iff.1 he).1 he).symm, hB⟩

theorem rone_none (q base : Nat) (vL vH : Value) (es : List Ent) (w : World) : Calls Try.prog 38 #[.pointer (some ⟨q, 0, none⟩), .int .i64 (-1)] w fun r w' =>
    r = .returned (.tuple #[.agg #[.int .u64 (tA none), .int .u64 (tN none), .int .u64 (tL none)], .int .i64 (tE none)]) ∧ Below w.heap.size w w' := by
  go_enter Try.func38, Try.ntmps38
  go_wp2
  refine bodyPost_ret (v := .tuple #[.agg #[.int .u64 0, .int .u64 0, .int .u64 0], .int .i64 5]) (by simp [results, Try.results38, go_sem]) rfl ⟨ret_told rfl rfl rfl rfl, ?_⟩
  exact (Below.refl _ _).alloc (Nat.le_refl _) _
theorem rone_any (q base : Nat) (vL vH : Value) (es : List Ent) (i : Nat) (e : Ent) (w : World) (hlen : es.length ≤ 1000000) (hR : Ref w base q vL vH es) (he : es[i]? = some e) :
    Calls Try.prog 38 #[.pointer (some ⟨q, 0, none⟩), .int .i64 i] w fun r w' =>
      r = .returned (.tuple #[.agg #[.int .u64 (tA (some e)), .int .u64 (tN (some e)), .int .u64 (tL (some e))], .int .i64 (tE (some e))]) ∧ Below w.heap.size w w' := by
  obtain ⟨A, c, rfl, _, _⟩ := own_form hR.2.2.1
  obtain ⟨A', c', rfl, _, _⟩ := own_form hR.2.2.2
  have hcell := hR.cell0
  have hcell1 := hR.cell1
  have hq := hR.lt
  obtain ⟨g, rfl, hg, h0, h1, h2⟩ := hR.at he
  obtain ⟨g', rfl, hg', h3, _⟩ := hR.heldAt he
  have hi : (i : Int) < es.length := by have := (List.getElem?_eq_some_iff.1 he).1; omega
  have hi' : i < es.length := by omega
  clear hR he
  obtain ⟨ea, en, el, eh⟩ := e
  dsimp only at h0 h1 h2 h3
  cases eh
  · go_enter Try.func38, Try.ntmps38
    go_wp2
    refine bodyPost_ret (v := .tuple #[.agg #[.int .u64 ea, .int .u64 en, .int .u64 el], .int .i64 0]) (by simp [results, Try.results38, go_sem]) rfl ⟨ret_told rfl rfl rfl rfl, ?_⟩
    exact (Below.refl _ _).alloc (Nat.le_refl _) _
  · go_enter Try.func38, Try.ntmps38
    go_wp2
    refine bodyPost_ret (v := .tuple #[.agg #[.int .u64 0, .int .u64 0, .int .u64 0], .int .i64 7]) (by simp [results, Try.results38, go_sem]) rfl ⟨ret_told rfl rfl rfl rfl, ?_⟩
    exact (Below.refl _ _).alloc (Nat.le_refl _) _

set_option maxHeartbeats 1000000 in
theorem rAt_any (q base : Nat) (vL vH : Value) (es : List Ent) (t : Int) (w : World) (hlen : es.length ≤ 1000000) (hs : Rising es) (hR : Ref w base q vL vH es) :
    Calls Try.prog 24 #[.pointer (some ⟨q, 0, none⟩), .int .u64 t] w fun r w' =>
      r = .returned (.tuple #[.agg #[.int .u64 (tA (atO es t)), .int .u64 (tN (atO es t)), .int .u64 (tL (atO es t))], .int .i64 (tE (atO es t))]) ∧ Below w.heap.size w w' := by
  have hR1 := hR.box (.cells #[.int .u64 0, .int .u64 0, .int .u64 0] 35)
  have H := rat_any q base vL vH es t (w.alloc (.cells #[.int .u64 0, .int .u64 0, .int .u64 0] 35)) hlen hs hR1
  have HR := Lib.hid hR1
  cases hf : found es t
  · have ho : atO es t = none := by unfold atO; rw [hf]; rfl
    have hi : atI es t = -1 := by unfold atI; rw [hf]; rfl
    rw [ho]
    rw [hi] at H
    have HH := Lib.hid H
    clear hR hR1 H ho hf hi hs
    go_enter Try.func24, Try.ntmps24
    go_wp2_with (first | (go_at_call 37; refine HH.out.mono ?_; rintro r w1 ⟨rfl, hb1⟩; obtain ⟨hc1, hf1⟩ := bcell hb1; have hz1 : w.heap.size < w1.heap.size := by (have := hb1.size; simp only [World.size_alloc] at this; omega)) | (go_at_call 38; refine (rone_none q base vL vH es _).mono ?_; rintro r w2 ⟨rfl, hb2⟩; obtain ⟨hc2, hf2⟩ := bcell hb2))
    refine bodyPost_ret (v := .tuple #[.agg #[.int .u64 (tA none), .int .u64 (tN none), .int .u64 (tL none)], .int .i64 (tE none)]) (by simp [results, Try.results24, go_sem, hc2, hc1, hz1]) rfl ⟨rfl, ?_⟩
    exact ((((below_box hb1).trans (hb2.mono (by omega))).setCell (p := ⟨w.heap.size, 0, none⟩) (Nat.le_refl _) _).setCell (p := ⟨w.heap.size, 1, none⟩) (Nat.le_refl _) _).setCell (p := ⟨w.heap.size, 2, none⟩) (Nat.le_refl _) _
  · obtain ⟨e, he, hea⟩ := found_some hf
    have ho : atO es t = some e := by unfold atO; rw [hf, if_pos rfl, he]
    have hi : atI es t = (lb es t : Int) := by unfold atI; rw [if_pos hf]
    rw [ho]
    rw [hi] at H
    have HH := Lib.hid H
    have HE := Lib.hid he
    clear hR hR1 H ho hf hi hs he hea
    go_enter Try.func24, Try.ntmps24
    go_wp2_with (first | (go_at_call 37; refine HH.out.mono ?_; rintro r w1 ⟨rfl, hb1⟩; obtain ⟨hc1, hf1⟩ := bcell hb1; have hz1 : w.heap.size < w1.heap.size := by (have := hb1.size; simp only [World.size_alloc] at this; omega)) | (go_at_call 38; refine (rone_any q base vL vH es (lb es t) e _ hlen (by exact HR.out.below hb1 (Nat.le_refl _)) HE.out).mono ?_; rintro r w2 ⟨rfl, hb2⟩; obtain ⟨hc2, hf2⟩ := bcell hb2))
    refine bodyPost_ret (v := .tuple #[.agg #[.int .u64 (tA (some e)), .int .u64 (tN (some e)), .int .u64 (tL (some e))], .int .i64 (tE (some e))]) (by simp [results, Try.results24, go_sem, hc2, hc1, hz1]) rfl ⟨rfl, ?_⟩
    exact ((((below_box hb1).trans (hb2.mono (by omega))).setCell (p := ⟨w.heap.size, 0, none⟩) (Nat.le_refl _) _).setCell (p := ⟨w.heap.size, 1, none⟩) (Nat.le_refl _) _).setCell (p := ⟨w.heap.size, 2, none⟩) (Nat.le_refl _) _

set_option maxHeartbeats 1000000 in
theorem rbytes_any (q base : Nat) (vL vH : Value) (es : List Ent) (w : World) (hlen : es.length ≤ 1000000) (hs : Fit es) (hR : Ref w base q vL vH es) :
    Calls Try.prog 11 #[.pointer (some ⟨q, 0, none⟩)] w fun r w' => r = .returned (.int .u64 (bytesI es)) ∧ Below w.heap.size w w' := by
  obtain ⟨A, c, rfl, _, _⟩ := own_form hR.2.2.1
  have hcell := hR.cell0
  have HR := Lib.hid hR
  clear hR
  go_enter Try.func11, Try.ntmps11
  go_wp2
  go_loopw [3, 11] (fun u i wr => ∃ k : Nat, k ≤ es.length ∧ i = .int .i64 k ∧ u = .int .u64 (bytesI (es.take k)) ∧ Below w.heap.size w wr) (fun _ i _ => es.length - (intOf i).toNat)
  case atStart => exact ⟨0, Nat.zero_le _, rfl, by simp [bytesI], Below.refl _ _⟩
  case round =>
    obtain ⟨k, hk, rfl, rfl, hB⟩ := hrel
    by_cases hlt : k < es.length
    · obtain ⟨e, he⟩ : ∃ e, es[k]? = some e := ⟨es[k], by simp [hlt]⟩
      obtain ⟨g, rfl, hg, h0, h1, h2⟩ := HR.out.at he
      rw [← hB.cell (p := ⟨g, _, none⟩) hg] at h0 h1 h2
      have hki : (k : Int) < es.length := by omega
      have HS := Lib.hid (bytes_snoc he)
      obtain ⟨b0, b1⟩ := bytes_bd hs k (by omega)
      obtain ⟨m0, m1, m2, m3, m4⟩ := hs.mem he
      clear he
      go_wp2
      go_roundw
      case rel => exact ⟨k + 1, by omega, by go_num, by rw [HS.out], hB.alloc hB.size _⟩
      case measure => simp [intOf]; omega
    · obtain rfl : k = es.length := by omega
      go_wp2
      go_ret
      exact ⟨ret_int (by simp), hB⟩
end Go.Proofs.Ytgkloacfickeaaa
