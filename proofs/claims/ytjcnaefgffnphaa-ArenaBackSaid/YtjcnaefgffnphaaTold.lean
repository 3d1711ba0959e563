/- What was told ahead: a slice of bools that is cut at its head and appended to. -/
import Derived.Test.YtjcnaefgffnphaaTake
import Derived.ArgAppend
namespace Go.Proofs.Ytjcnaefgffnphaa
open Go.RowKit
set_option linter.unusedVariables false

theorem run_append_room_off {P : Program} (w : World) (t ty e : TypeId) (i : TypeInfo) (ht : P.underlying t = some (.slice e)) (hi : P.info? e = some i) (hs : i.size = 1)
    (g o sLen sCap : Nat) (cur : Array Value) (hg : w.heap[g]? = some (.cells cur e (0, 0)))
    (a : Addr) (m c : Nat) (news : List Value) (hl : news.length = m) (hnews : ∀ j u, news[j]? = some u → w.cell? (a.add j) = some u) (h1 : ∀ u ∈ news, u.oneCell' = true)
    (hroom : sLen + m ≤ sCap) (hfit : o + sLen + news.length ≤ cur.size) :
    (Builtin.append_ #[t, t] ty #[.slice (some ⟨g, o, none⟩) sLen sCap, .slice (some a) m c]).run P w =
      .ok (.slice (some ⟨g, o, none⟩) (sLen + m) sCap) (w.setRow g (cur.toList.take (o + sLen) ++ news ++ cur.toList.drop (o + sLen + news.length)).toArray) := by
  have hf := run_firstCells_some (P := P) w i.size m a m c news (by rw [hs]; omega) hnews
  have hst := run_storeCells_at P g (o + sLen) e news 0 cur w hg (by simpa using hfit) h1
  simp only [Nat.add_zero] at hst
  rw [hs] at hf
  simp [Builtin.append_, run_underlying ht, sizeOf, typeInfo, hi, hs, Builtin.lenOf, hroom, hf, Addr.add_lit, hst]

/-- A slice of bools reads as a list; its block is the call's own. -/
def Told (w : World) (base : Nat) (v : Value) (ts : List Bool) : Prop := ∃ A c, v = .slice A ts.length c ∧ c ≤ maxLen ∧ ts.length ≤ c ∧
  ((A = none ∧ c = 0) ∨ ∃ t o cur, A = some ⟨t, o, none⟩ ∧ base ≤ t ∧ w.heap[t]? = some (.cells cur 4 (0, 0)) ∧ o + c ≤ cur.size ∧ ∀ j x, ts[j]? = some x → cur[o + j]? = some (.bool x))

theorem Told.lt {w : World} {base : Nat} {v : Value} {ts : List Bool} (h : Told w base v ts) : ∀ k, v.ownBlock = some k → base ≤ k ∧ k < w.heap.size := by
  obtain ⟨A, c, rfl, _, _, ⟨rfl, _⟩ | ⟨t, o, cur, rfl, hb, hg, _⟩⟩ := h
  · intro k hk; cases hk
  · intro k hk; cases hk; exact ⟨hb, (Array.getElem?_eq_some_iff.1 hg).1⟩
theorem Told.mod {w w' : World} {base : Nat} {v : Value} {ts : List Bool} {S : Nat → Prop} (h : Told w base v ts) (hm : Mod S w w') (hS : ∀ k, v.ownBlock = some k → ¬ S k) : Told w' base v ts := by
  obtain ⟨A, c, rfl, h1, h2, ⟨rfl, h3⟩ | ⟨t, o, cur, rfl, hb, hg, h3⟩⟩ := h
  · exact ⟨none, c, rfl, h1, h2, .inl ⟨rfl, h3⟩⟩
  · exact ⟨_, c, rfl, h1, h2, .inr ⟨t, o, cur, rfl, hb, (hm.block t (Array.getElem?_eq_some_iff.1 hg).1 (hS t rfl)).trans hg, h3⟩⟩
theorem told_nil (w : World) (base : Nat) : Told w base (.slice none 0 0) [] := ⟨none, 0, rfl, by unfold maxLen; omega, Nat.le_refl _, .inl ⟨rfl, rfl⟩⟩
theorem told_of_own {w : World} {base : Nat} {v : Value} {ts : List Bool} {n : Nat} (hn : n = ts.length) (h : w.ownsRow base 4 1 v n (ts.map Value.bool)) : Told w base v ts := by
  subst hn
  rcases h.2 with ⟨rfl, h0⟩ | ⟨g, cap, cur, rfl, hb, hg, hn, hc, hs, ht⟩
  · exact ⟨none, 0, by rw [h0], by unfold maxLen; omega, by omega, .inl ⟨rfl, rfl⟩⟩
  · refine ⟨_, cap, rfl, hc, hn, .inr ⟨g, 0, cur, rfl, hb, hg, by omega, fun j x hx => ?_⟩⟩
    have hj : j < ts.length := (List.getElem?_eq_some_iff.1 hx).1
    have h1 : (ts.map Value.bool)[j]? = some (.bool x) := by rw [List.getElem?_map, hx]; rfl
    rw [← ht, List.getElem?_take, if_pos (by omega), Array.getElem?_toList] at h1
    rw [Nat.zero_add]; exact h1
/-- What the head is, and what is left behind it. -/
theorem Told.head {w : World} {base : Nat} {v : Value} {x : Bool} {ts : List Bool} (h : Told w base v (x :: ts)) : ∃ t o c, v = .slice (some ⟨t, o, none⟩) (ts.length + 1) c ∧ ts.length + 1 ≤ c ∧ c ≤ 9223372036854775807 ∧ w.cell? ⟨t, o, none⟩ = some (.bool x) ∧
    Told w base (.slice (some (if c = 1 then ⟨t, o, none⟩ else ⟨t, o + 1, none⟩)) ts.length (c - 1)) ts := by
  obtain ⟨A, c, rfl, h1, h2, ⟨rfl, h3⟩ | ⟨t, o, cur, rfl, hb, hg, h3, h4⟩⟩ := h
  · simp at h2; omega
  · have hx := h4 0 x rfl
    simp at h2
    refine ⟨t, o, c, rfl, h2, by unfold maxLen at h1; omega, by simp [World.cell?, hg]; simpa using hx, ?_⟩
    by_cases hc : c = 1
    · rw [if_pos hc]
      exact ⟨_, _, rfl, by omega, by omega, .inr ⟨t, o, cur, rfl, hb, hg, by omega, fun j y hy => by have := (List.getElem?_eq_some_iff.1 hy).1; omega⟩⟩
    · rw [if_neg hc]
      exact ⟨_, _, rfl, by omega, by omega, .inr ⟨t, o + 1, cur, rfl, hb, hg, by omega, fun j y hy => by rw [show o + 1 + j = o + (j + 1) by omega]; exact h4 (j + 1) y (by simpa using hy)⟩⟩

theorem told_append {w : World} {base : Nat} {v : Value} {ts bs : List Bool} (hT : Told w base v ts) (hbase : base ≤ w.heap.size) (B : Nat) (A2 : Option Addr) (c2 : Nat) (hr : Reads w B 1 A2 bs.length (bs.map Value.bool)) (hlen : ts.length + bs.length ≤ 1000000) (ty : TypeId) :
    ∃ v' w', (Builtin.append_ #[32, 32] ty #[v, .slice A2 bs.length c2]).run Try.prog w = .ok v' w' ∧ Told w' base v' (ts ++ bs) ∧ w.grownBy w' v.ownBlock ∧ (v'.ownBlock = v.ownBlock ∨ ∃ g, v'.ownBlock = some g ∧ w.heap.size ≤ g) := by
  obtain ⟨i, hi, hz, hs, hb⟩ := info_parts info4
  have hone : ∀ u ∈ bs.map Value.bool, u.oneCell' = true := by intro u hu; simp at hu; rcases hu with ⟨_, rfl⟩ | ⟨_, rfl⟩ <;> rfl
  obtain ⟨A, c, rfl, h1, h2, ⟨rfl, h3⟩ | ⟨t, o, cur, rfl, hbt, hg, h3, h4⟩⟩ := hT
  · subst h3
    have h0 : ts = [] := List.eq_nil_of_length_eq_zero (by omega)
    subst h0
    obtain ⟨v', w', e1, e2, e3, e4⟩ := run_append_any (P := Try.prog) w base 32 ty 4 i (.bool false) 1 1 Try.underlying32 hi hz hs hb rfl (by decide) (.slice none 0 0) 0 [] (World.ownsRow_nil w base 4 1) B A2 bs.length c2 _ hr hone (by unfold maxLen; omega) (by omega) hbase
    exact ⟨v', w', e1, told_of_own (n := bs.length) (by simp) (by simpa using e2), e3, e4.imp id (fun h => ⟨_, h, Nat.le_refl _⟩)⟩
  · cases A2 with
    | none =>
      have h0 : bs = [] := by
        rcases Nat.eq_zero_or_pos bs.length with h | h
        · exact List.eq_nil_of_length_eq_zero h
        · obtain ⟨_, hx, _⟩ := hr.2 h; cases hx
      subst h0
      refine ⟨.slice (some ⟨t, o, none⟩) ts.length c, w, ?_, by rw [List.append_nil]; exact ⟨_, c, rfl, h1, h2, .inr ⟨t, o, cur, rfl, hbt, hg, h3, h4⟩⟩, World.grownBy.refl w _, .inl rfl⟩
      simp [Builtin.append_, run_underlying Try.underlying32, sizeOf, typeInfo, hi, Builtin.lenOf, Builtin.firstCells, h2, storeCells]
    | some ad =>
      have hnews : ∀ j u, (bs.map Value.bool)[j]? = some u → w.cell? (ad.add j) = some u := by
        intro j u hu
        have hj := (List.getElem?_eq_some_iff.1 hu).1
        rw [List.length_map] at hj
        obtain ⟨ad', hx, _, hc⟩ := hr.2 (by omega)
        cases hx
        exact hc j u hu
      by_cases hroom : ts.length + bs.length ≤ c
      · have hrun := run_append_room_off (P := Try.prog) w 32 ty 4 i Try.underlying32 hi hs t o ts.length c cur hg ad bs.length c2 _ (by simp) hnews hone hroom (by simp; omega)
        refine ⟨_, _, hrun, ⟨_, c, by simp, h1, by simp; omega, .inr ⟨t, o, _, rfl, hbt, setRow_at hg, ?_, fun j x hx => ?_⟩⟩, ?_, .inl rfl⟩
        · simp; omega
        · have hj := (List.getElem?_eq_some_iff.1 hx).1
          simp only [List.length_append] at hj
          rw [List.getElem?_toArray, List.append_assoc]
          by_cases hjt : j < ts.length
          · rw [List.getElem?_append_left (by simp; omega), List.getElem?_take, if_pos (by omega), Array.getElem?_toList]
            rw [List.getElem?_append_left hjt] at hx
            exact h4 j x hx
          · have hsz : o + ts.length ≤ cur.size := by omega
            have hl : (cur.toList.take (o + ts.length)).length = o + ts.length := by rw [List.length_take]; simp only [Array.length_toList]; omega
            rw [List.getElem?_append_right (by omega), hl, List.getElem?_append_left (by rw [List.length_map]; omega), List.getElem?_map]
            rw [List.getElem?_append_right (by omega)] at hx
            rw [show o + j - (o + ts.length) = j - ts.length by omega, hx]; rfl
        · exact (setRow_mod (S := fun k => k = t) (Mod.refl _ w) (fun _ => rfl) _).grownBy (fun k hk => by rw [hk]; rfl)
      · obtain ⟨v', w', hrun, e2, e3⟩ := run_append_arg_grows (P := Try.prog) w 32 ty 4 i (.bool false) 1 1 Try.underlying32 hi hz hs hb rfl (by decide) ⟨t, o, none⟩ ts.length c (ts.map Value.bool) (by simp) (fun j u hu => by
          rw [List.getElem?_map] at hu
          cases hx : ts[j]? with
          | none => rw [hx] at hu; cases hu
          | some x =>
            rw [hx] at hu; cases hu
            rw [add_off]
            simp [World.cell?, hg, h4 j x hx]) ad bs.length c2 _ (by simp) hnews (by omega) (by unfold maxLen; omega) (by omega)
        have e2' : w'.ownsRow base 4 1 v' (ts.length + bs.length) (ts.map Value.bool ++ bs.map Value.bool) := by
          refine ⟨e2.1, ?_⟩
          rcases e2.2 with h | ⟨g, cap, cur', h5, h6, h7⟩
          · exact .inl h
          · exact .inr ⟨g, cap, cur', h5, by omega, h7⟩
        refine ⟨v', w', hrun, told_of_own (n := ts.length + bs.length) (by simp) (by simpa using e2'), (Mod.refl (fun k => k = t) w |>.grown e3 (fun k hk => by cases hk)).grownBy (fun k hk => by rw [hk]; rfl), ?_⟩
        rcases e2.2 with ⟨rfl, h0⟩ | ⟨g, cap, cur', rfl, h6, h7, _⟩
        · omega
        · exact .inr ⟨g, rfl, h6⟩
end Go.Proofs.Ytjcnaefgffnphaa
