/- The ledger's All and Bytes. -/
import Derived.Test.YtgkloacfickeaaaFree
import Derived.KernelRfl
namespace Go.Proofs.Ytgkloacfickeaaa
open Go.RowKit
set_option linter.unusedVariables false

def Ent.blk (e : Ent) : List Value := [.int .u64 e.a, .int .u64 e.n, .int .u64 e.al]
def blks (es : List Ent) : List Value := es.flatMap Ent.blk
theorem length_blks (es : List Ent) : (blks es).length = es.length * 3 := by
  induction es with
  | nil => rfl
  | cons e es ih => simp [blks, Ent.blk] at ih ⊢; omega
theorem take_snoc {α : Type} {es : List α} {k : Nat} {e : α} (he : es[k]? = some e) : es.take (k + 1) = es.take k ++ [e] := by
  rw [List.take_add_one, he]; rfl
theorem blks_snoc {es : List Ent} {k : Nat} {e : Ent} (he : es[k]? = some e) : blks (es.take (k + 1)) = blks (es.take k) ++ e.blk := by
  rw [take_snoc he]; simp [blks]

theorem info35 : (Try.prog.info? 35).map (fun i => (i.zero, i.size, i.bytes)) = some (some (.agg #[.int .u64 0, .int .u64 0, .int .u64 0]), 3, 24) := by kernel_rfl

set_option maxHeartbeats 1000000 in
theorem all_any (p base : Nat) (v : Value) (es : List Ent) (w : World) (hlen : es.length ≤ 1000000) (hL : Led w base p v es) :
    Calls Try.prog 9 #[.pointer (some ⟨p, 0, none⟩)] w fun r w' => ∃ u, r = .returned u ∧ w'.ownsRow w.heap.size 35 3 u es.length (blks es) ∧ Below w.heap.size w w' := by
  obtain ⟨i0, hi, hz0, hz1, hz2⟩ := info_parts info35
  obtain ⟨A, c, rfl, _, _⟩ := hL.2.2.form
  have hp := hL.lt
  have hcell := hL.cell
  have HL := Lib.hid hL
  clear hL
  go_enter Try.func9, Try.ntmps9
  go_wp2
  go_loopw [2, 12] (fun u i wr => ∃ k : Nat, k ≤ es.length ∧ i = .int .i64 k ∧ wr.ownsRow w.heap.size 35 3 u k (blks (es.take k)) ∧ Below w.heap.size w wr)
    (fun _ i _ => es.length - (intOf i).toNat)
  case atStart => exact ⟨0, Nat.zero_le _, rfl, by simpa [blks] using World.ownsRow_nil w w.heap.size 35 3, Below.refl _ _⟩
  case round =>
    obtain ⟨k, hk, rfl, hown, hB⟩ := hrel
    by_cases hlt : k < es.length
    · obtain ⟨e, he⟩ : ∃ e, es[k]? = some e := ⟨es[k], by simp [hlt]⟩
      obtain ⟨g, rfl, _, hg, h0, h1, h2, h3, _⟩ := HL.out.2.2.at he
      rw [← hB.cell (p := ⟨g, _, none⟩) hg] at h0 h1 h2 h3
      have hki : (k : Int) < es.length := by omega
      have HS := Lib.hid (blks_snoc he)
      have hl3 := length_blks (es.take k)
      have HO := Lib.hid hown
      clear he hown
      go_wp2_with (at_builtin; refine wpList_append_own _ rfl _ _ 29 rfl w.heap.size 35 i0 _ 3 24 Try.underlying29 hi hz0 hz1 hz2 rfl (by decide) _ _ _ rfl ((HO.out.alloc _).alloc _) ⟨wr.heap.size + 1, 0, none⟩ 1 1 [.int .u64 e.a, .int .u64 e.n, .int .u64 e.al] rfl rfl ?c1 ?c2 ?c3 ?c4 ?c5 ?_)
      case c1 =>
        intro j u hj
        match j, hj with
        | 0, hj => simp at hj; subst hj; simp [Addr.add]
        | 1, hj => simp at hj; subst hj; simp [Addr.add]
        | 2, hj => simp at hj; subst hj; simp [Addr.add]
      case c2 => intro u hu; simp at hu; rcases hu with rfl | rfl | rfl <;> rfl
      case c3 => unfold maxLen; omega
      case c4 => omega
      case c5 => have := hB.size; simp; omega
      · intro v' w1 hown' hgrow _
        have HO' := Lib.hid hown'
        have hB' := ((hB.alloc hB.size _).alloc (by have := hB.size; simp; omega) _).grown hgrow (by have := hB.size; simp; omega) (fun j hj => (HO.out.lt j hj).1)
        have HB' := Lib.hid hB'
        clear hown' hgrow hB'
        go_wp2
        go_roundw
        case rel => exact ⟨k + 1, by omega, by go_num, by rw [HS.out]; exact HO'.out, HB'.out⟩
        case measure => simp [intOf]; omega
    · obtain rfl : k = es.length := by omega
      have HO := Lib.hid hown
      clear hown
      go_wp2
      go_ret
      exact ⟨_, rfl, by simpa using HO.out, hB⟩

theorem own_form {w : World} {base : Nat} {e : TypeId} {size n : Nat} {v : Value} {xs : List Value} (h : w.ownsRow base e size v n xs) : ∃ A c, v = .slice A n c ∧ n ≤ c ∧ c ≤ maxLen := by
  rcases h.2 with ⟨rfl, h0⟩ | ⟨g, cap, cur, rfl, _, _, hn, hc, _⟩
  · exact ⟨none, 0, by rw [h0], by omega, by unfold maxLen; omega⟩
  · exact ⟨_, cap, rfl, hn, hc⟩
theorem own_at {w : World} {base : Nat} {e : TypeId} {size n c : Nat} {A : Option Addr} {xs : List Value} (h : w.ownsRow base e size (.slice A n c) n xs) (hn : 0 < n) :
    ∃ g, A = some ⟨g, 0, none⟩ ∧ base ≤ g ∧ g < w.heap.size ∧ (∀ j, j < n * size → w.cell? ⟨g, j, none⟩ = xs[j]?) ∧ (∀ j, w.frozen? ⟨g, j, none⟩ = false) := by
  have h' := h
  rcases h.2 with ⟨hv, h0⟩ | ⟨g, cap, cur, hv, hb, hg, _⟩
  · omega
  · simp only [Value.slice.injEq] at hv
    obtain ⟨rfl, _, rfl⟩ := hv
    exact ⟨g, rfl, hb, (Array.getElem?_eq_some_iff.1 hg).1, fun j hj => h'.cellAt j hj, fun j => h'.frozenAt j⟩
theorem getElem?_blks {es : List Ent} {k : Nat} {e : Ent} (h : es[k]? = some e) (j : Nat) (hj : j < 3) : (blks es)[k * 3 + j]? = e.blk[j]? := by
  have hd : ∀ (es : List Ent) (k : Nat), (blks es).drop (k * 3) = blks (es.drop k) := by
    intro es
    induction es with
    | nil => intro k; simp [blks]
    | cons x es ih =>
      intro k
      cases k with
      | zero => simp [blks]
      | succ k =>
        have := ih k
        simp only [blks, List.flatMap_cons, List.drop_succ_cons] at this ⊢
        rw [Nat.succ_mul, List.drop_append]
        simp only [Ent.blk, List.length_cons, List.length_nil]
        rw [List.drop_eq_nil_of_le (by simp), show k * 3 + 3 - (0 + 1 + 1 + 1) = k * 3 from by omega]
        simpa using this
  have h1 : ((blks es).drop (k * 3))[j]? = (blks es)[k * 3 + j]? := by simp
  rw [← h1, hd]
  obtain ⟨hk, rfl⟩ := List.getElem?_eq_some_iff.1 h
  rw [List.drop_eq_getElem_cons hk]
  simp only [blks, List.flatMap_cons]
  rw [List.getElem?_append_left (by simp [Ent.blk]; omega)]

/-- How many bytes were asked for. -/
def bytesI (es : List Ent) : Int := (es.map (·.n)).sum
theorem bytes_snoc {es : List Ent} {k : Nat} {e : Ent} (he : es[k]? = some e) : bytesI (es.take (k + 1)) = bytesI (es.take k) + e.n := by
  rw [take_snoc he]; simp [bytesI]
theorem bytes_bd {es : List Ent} (hs : Fit es) (k : Nat) (hk : k ≤ es.length) : 0 ≤ bytesI (es.take k) ∧ bytesI (es.take k) ≤ k * 1048576 := by
  induction k with
  | zero => simp [bytesI]
  | succ k ih =>
    obtain ⟨a, b⟩ := ih (by omega)
    have he : es[k]? = some es[k] := by simp
    rw [bytes_snoc he]
    have := hs.mem he
    omega

set_option maxHeartbeats 1000000 in
theorem bytes_any (p base : Nat) (v : Value) (es : List Ent) (w : World) (hlen : es.length ≤ 1000000) (hs : Fit es) (hL : Led w base p v es) :
    Calls Try.prog 10 #[.pointer (some ⟨p, 0, none⟩)] w fun r w' => r = .returned (.int .u64 (bytesI es)) ∧ Below w.heap.size w w' := by
  have H := all_any p base v es w hlen hL
  have HH := Lib.hid H
  clear H hL
  go_enter Try.func10, Try.ntmps10
  go_wp2_with fail
  refine HH.out.mono ?_
  rintro r w1 ⟨u, rfl, hown, hb1⟩
  obtain ⟨A, c, rfl, _, _⟩ := own_form hown
  have HO := Lib.hid hown
  clear hown HH
  go_wp2
  go_loopw [2, 8] (fun u i wr => ∃ k : Nat, k ≤ es.length ∧ i = .int .i64 k ∧ u = .int .u64 (bytesI (es.take k)) ∧ Below w.heap.size w wr ∧ Below w1.heap.size w1 wr)
    (fun _ i _ => es.length - (intOf i).toNat)
  case atStart => exact ⟨0, Nat.zero_le _, rfl, by simp [bytesI], hb1, Below.refl _ _⟩
  case round =>
    obtain ⟨k, hk, rfl, rfl, hB, hB1⟩ := hrel
    by_cases hlt : k < es.length
    · obtain ⟨e, he⟩ : ∃ e, es[k]? = some e := ⟨es[k], by simp [hlt]⟩
      obtain ⟨g, rfl, _, hg, hc, _⟩ := own_at HO.out (by omega)
      have h0 := (hc (k * 3) (by omega)).trans (getElem?_blks he 0 (by omega))
      have h1 := (hc (k * 3 + 1) (by omega)).trans (getElem?_blks he 1 (by omega))
      have h2 := (hc (k * 3 + 2) (by omega)).trans (getElem?_blks he 2 (by omega))
      simp [Ent.blk] at h0 h1 h2
      rw [← hB1.cell (p := ⟨g, _, none⟩) hg] at h0 h1 h2
      have hki : (k : Int) < es.length := by omega
      have HS := Lib.hid (bytes_snoc he)
      obtain ⟨b0, b1⟩ := bytes_bd hs k (by omega)
      obtain ⟨m0, m1, m2, m3, m4⟩ := hs.mem he
      clear hc he
      go_wp2
      go_roundw
      case rel => exact ⟨k + 1, by omega, by go_num, by rw [HS.out], hB.alloc hB.size _, hB1.alloc hB1.size _⟩
      case measure => simp [intOf]; omega
    · obtain rfl : k = es.length := by omega
      go_wp2
      go_ret
      exact ⟨ret_int (by simp), hB⟩
end Go.Proofs.Ytgkloacfickeaaa
