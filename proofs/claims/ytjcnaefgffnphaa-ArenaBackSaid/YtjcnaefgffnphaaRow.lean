/- copy over rows whose elements have several cells; what a row holds behind it. -/
import Derived.Test.YtjcnaefgffnphaaApp
import Derived.Laws.CopyOwn
import Derived.Lib.AppendZerosOnto
import Derived.Lib.Overlaps
namespace Go.Proofs.Ytjcnaefgffnphaa
open Go.RowKit
set_option linter.unusedVariables false

theorem run_copy_k {P : Program} (w : World) (dT sT ty elem : TypeId) (i : TypeInfo) (size : Nat) (g o dLen dCap : Nat) (a : Addr) (sLen sCap n : Nat) (cur : Array Value) (t : TypeId) (cs : List Value)
    (hu : P.underlying dT = some (.slice elem)) (hi : P.info? elem = some i) (hs : i.size = size)
    (hg : w.heap[g]? = some (.cells cur t (0, 0))) (hn : Nat.min sLen dLen = n) (hl : cs.length = n * size)
    (hsrc : ∀ j v, cs[j]? = some v → w.cell? (a.add j) = some v) (hfit : o + cs.length ≤ cur.size) (h1 : ∀ v ∈ cs, v.oneCell' = true) :
    (Builtin.copy_ #[dT, sT] ty #[.slice (some ⟨g, o, none⟩) dLen dCap, .slice (some a) sLen sCap]).run P w =
      .ok (goInt n) (w.setRow g (cur.toList.take o ++ cs ++ cur.toList.drop (o + cs.length)).toArray) := by
  have hld := run_loadCells_list (P := P) w a cs hsrc
  have hst := run_storeCells_at P g o t cs 0 cur w hg (by simpa using hfit) h1
  subst hs
  simp [Builtin.copy_, run_underlying hu, Builtin.lenOf, Builtin.firstCells, sizeOf, typeInfo, hi, hn, ← hl, hld, hst]

theorem wpList_copy_k {P : Program} {w : World} {ops : Array Oper} {rest : List Oper} {o : Oper} {a : Act} {Q : Exit → Act → World → Prop} (hgd : o.guard = none) (d s : Operand) (dT sT : TypeId)
    (ho : o.op = .call { callee := .builtin .copy, args := #[d, s], argTypes := #[dT, sT] }) (elem : TypeId) (i : TypeInfo) (size : Nat) (hu : P.underlying dT = some (.slice elem)) (hi : P.info? elem = some i) (hsz : i.size = size)
    (g off dLen dCap : Nat) (ad : Addr) (sLen sCap n : Nat) (hd : a.eval d = .slice (some ⟨g, off, none⟩) dLen dCap) (hs : a.eval s = .slice (some ad) sLen sCap)
    (cur : Array Value) (t : TypeId) (hg : w.heap[g]? = some (.cells cur t (0, 0))) (cs : List Value) (hn : Nat.min sLen dLen = n) (hl : cs.length = n * size)
    (hsrc : ∀ j v, cs[j]? = some v → w.cell? (ad.add j) = some v) (hfit : off + cs.length ≤ cur.size) (h1 : ∀ v ∈ cs, v.oneCell' = true)
    (h : wpList P ops Q rest (a.put o.dst (goInt n)) (w.setRow g (cur.toList.take off ++ cs ++ cur.toList.drop (off + cs.length)).toArray)) : wpList P ops Q (o :: rest) a w := by
  refine wpList_plain hgd fun K hK => ?_
  have hrun := run_copy_k (P := P) w dT sT o.type elem i size g off dLen dCap ad sLen sCap n cur t cs hu hi hsz hg hn hl hsrc hfit h1
  unfold Oper.wp
  simp [execOp, ho, resolve, invoke, builtin, hd, hs, hrun, Result.andThen]
  exact hK _ _ (by simpa using h)

theorem step_copy_k {P : Program} {ops : Array Oper} {o : Oper} {a : Act} {w : World} {K : Act → World → Prop} {Q : Exit → Act → World → Prop} {E : Prop} (hgd : o.guard = none) (d s : Operand) (dT sT : TypeId)
    (ho : o.op = .call { callee := .builtin .copy, args := #[d, s], argTypes := #[dT, sT] }) (elem : TypeId) (i : TypeInfo) (size : Nat) (hu : P.underlying dT = some (.slice elem)) (hi : P.info? elem = some i) (hsz : i.size = size)
    (g off dLen dCap : Nat) (ad : Addr) (sLen sCap n : Nat) (hd : a.eval d = .slice (some ⟨g, off, none⟩) dLen dCap) (hs : a.eval s = .slice (some ad) sLen sCap)
    (cur : Array Value) (t : TypeId) (hg : w.heap[g]? = some (.cells cur t (0, 0))) (cs : List Value) (hn : Nat.min sLen dLen = n) (hl : cs.length = n * size)
    (hsrc : ∀ j v, cs[j]? = some v → w.cell? (ad.add j) = some v) (hfit : off + cs.length ≤ cur.size) (h1 : ∀ v ∈ cs, v.oneCell' = true)
    (h : K (a.put o.dst (goInt n)) (w.setRow g (cur.toList.take off ++ cs ++ cur.toList.drop (off + cs.length)).toArray)) :
    if Region.wanted o (yielded ops a.tmps) = true then Oper.wp P o a w K Q else E := by
  have hw : Region.wanted o (yielded ops a.tmps) = true := by simp [Region.wanted, hgd]
  rw [if_pos hw]
  have hrun := run_copy_k (P := P) w dT sT o.type elem i size g off dLen dCap ad sLen sCap n cur t cs hu hi hsz hg hn hl hsrc hfit h1
  unfold Oper.wp
  simp [execOp, ho, resolve, invoke, builtin, hd, hs, hrun, Result.andThen]
  simp only [List.append_assoc] at h
  exact h

/-- A row behind a write: the same row with other cells; no other block turned. -/
theorem setRow_at {w : World} {g : Nat} {cur cs : Array Value} {t : TypeId} (hg : w.heap[g]? = some (.cells cur t (0, 0))) : (w.setRow g cs).heap[g]? = some (.cells cs t (0, 0)) := setRow_heap w g cur cs t _ hg
theorem setRow_mod {S : Nat → Prop} {w w1 : World} (h : Mod S w w1) {g : Nat} (hS : g < w.heap.size → S g) (cs : Array Value) : Mod S w (w1.setRow g cs) :=
  h.trans (T := fun k => k = g) ⟨rfl, rfl, rfl, by simp [World.setRow], fun k _ hn => setRow_other w1 g k cs hn⟩ fun i hi e => e ▸ hS (e ▸ hi)
theorem own_of_block {w : World} {base g n cap size : Nat} {e : TypeId} {cur : Array Value} {xs : List Value} (hg : w.heap[g]? = some (.cells cur e (0, 0))) (hb : base ≤ g) (hn : n ≤ cap) (hc : cap ≤ maxLen)
    (hs : cur.size = cap * size) (hx : xs.length = n * size) (ht : cur.toList.take (n * size) = xs) : w.ownsRow base e size (.slice (some ⟨g, 0, none⟩) n cap) n xs :=
  ⟨hx, .inr ⟨g, cap, cur, rfl, hb, hg, hn, hc, hs, ht⟩⟩
theorem own_block {w : World} {base g n cap size : Nat} {e : TypeId} {xs : List Value} (h : w.ownsRow base e size (.slice (some ⟨g, 0, none⟩) n cap) n xs) :
    ∃ cur, w.heap[g]? = some (.cells cur e (0, 0)) ∧ base ≤ g ∧ n ≤ cap ∧ cap ≤ maxLen ∧ cur.size = cap * size ∧ cur.toList.take (n * size) = xs := by
  rcases h.2 with ⟨h', _⟩ | ⟨g', cap', cur, h', hb, hg, hnc, hcm, hcs, ht⟩
  · simp at h'
  · simp only [Value.slice.injEq, Option.some.injEq, Addr.mk.injEq, and_true, true_and] at h'
    obtain ⟨rfl, rfl⟩ := h'
    exact ⟨cur, hg, hb, hnc, hcm, hcs, ht⟩
theorem add_off (g o j : Nat) : (⟨g, o, none⟩ : Addr).add j = ⟨g, o + j, none⟩ := by unfold Addr.add; split <;> simp_all
/-- The cells of a block from a place on. -/
theorem cells_of_block {w : World} {g o : Nat} {cur : Array Value} {t : TypeId} {cs : List Value} (hg : w.heap[g]? = some (.cells cur t (0, 0))) (hc : ∀ j v, cs[j]? = some v → cur.toList[o + j]? = some v) :
    ∀ j v, cs[j]? = some v → w.cell? ((⟨g, o, none⟩ : Addr).add j) = some v := by
  intro j v hv
  rw [add_off, cell_of_row w g _ cur t (0, 0) hg]
  have := hc j v hv
  simpa using this

/-- What stands in a row when its tail was moved on, and what was to be laid was laid. -/
theorem inserted {T X Y D R Z : List Value} {a k : Nat} (hX : X.length = a) (hY : Y.length = k) (hD : D.length = k + Z.length) (hcur : T = X ++ D ++ R) :
    ∀ T1 T2 : List Value, T1 = T.take (a + k) ++ Z ++ T.drop (a + k + Z.length) → T2 = T1.take a ++ Y ++ T1.drop (a + Y.length) → T2 = X ++ Y ++ Z ++ R := by
  rintro T1 T2 rfl rfl
  subst hcur
  have e1 : (X ++ D ++ R).take (a + k) = X ++ D.take k := by
    rw [List.append_assoc, List.take_append, hX, List.take_of_length_le (by omega), show a + k - a = k from by omega, List.take_append, show k - D.length = 0 from by omega]; simp
  have e2 : (X ++ D ++ R).drop (a + k + Z.length) = R := by
    rw [List.append_assoc, List.drop_append, hX, List.drop_eq_nil_of_le (by omega), show a + k + Z.length - a = D.length from by omega, List.drop_left]; simp
  rw [e1, e2]
  have e3 : (X ++ D.take k ++ Z ++ R).take a = X := by
    rw [List.append_assoc, List.append_assoc, List.take_append, hX, List.take_of_length_le (by omega)]; simp
  have e4 : (X ++ D.take k ++ Z ++ R).drop (a + Y.length) = Z ++ R := by
    have hk : (X ++ D.take k).length = a + Y.length := by simp [hX, hY, hD]
    rw [List.append_assoc (X ++ D.take k), ← hk, List.drop_left]
  rw [e3, e4]
  simp

/-- Behind both copies: what stood ahead, what was laid, what stood from there on. -/
theorem inserted_row {T xs ys : List Value} {a k m n' : Nat} (hxl : xs.length = a + m) (htk : T.take (a + m) = xs) (hl : ys.length = k) (hT : a + k + m ≤ T.length) (hn : n' = a + k + m) :
    ((T.take (a + k) ++ (xs.drop a ++ T.drop (a + k + m))).take a ++ ys ++ (T.take (a + k) ++ (xs.drop a ++ T.drop (a + k + m))).drop (a + ys.length)).take n' = xs.take a ++ ys ++ xs.drop a := by
  have hX : (xs.take a).length = a := by rw [List.length_take]; omega
  have hZ : (xs.drop a).length = m := by rw [List.length_drop]; omega
  have e0 : T = xs.take a ++ (T.drop a).take (k + m) ++ (T.drop a).drop (k + m) := by
    have e1 : xs.take a = T.take a := by rw [← htk, List.take_take, Nat.min_eq_left (by omega)]
    rw [e1, List.append_assoc, List.take_append_drop, List.take_append_drop]
  have h := inserted (T := T) (X := xs.take a) (Y := ys) (Z := xs.drop a) (D := (T.drop a).take (k + m)) (R := (T.drop a).drop (k + m)) (a := a) (k := k) hX hl
    (by rw [List.length_take, List.length_drop, hZ]; omega) e0 _ _ rfl rfl
  rw [hZ, List.append_assoc (T.take (a + k))] at h
  rw [h, hn]
  have hlen : (xs.take a ++ ys ++ xs.drop a).length = a + k + m := by simp only [List.length_append, hX, hl, hZ]
  rw [← hlen, List.take_left]
theorem grown_row {T X ys Z : List Value} {a k m n' : Nat} (hX : T.take a = X) (hXl : X.length = a) (hl : ys.length = k) (hZ : Z.length = m) (hn : n' = a + k + m) :
    ((T.take a ++ ys ++ T.drop (a + k)).take (a + k) ++ (Z ++ (T.take a ++ ys ++ T.drop (a + k)).drop (a + k + m))).take n' = X ++ ys ++ Z := by
  rw [hX]
  have e1 : (X ++ ys ++ T.drop (a + k)).take (a + k) = X ++ ys := by
    have h2 : (X ++ ys).length = a + k := by simp [hXl, hl]
    rw [← h2, List.take_left]
  have h3 : (X ++ ys ++ Z).length = a + k + m := by simp only [List.length_append, hXl, hl, hZ]
  rw [e1, hn, ← List.append_assoc, ← h3, List.take_left]
end Go.Proofs.Ytjcnaefgffnphaa
