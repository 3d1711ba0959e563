/- LedgerHolds: the walk. -/
import Derived.Test.YtgkloacfickeaaaHoldsPlan
namespace Go.Proofs.Ytgkloacfickeaaa
open Go.RowKit
set_option linter.unusedVariables false

theorem Acts.up {w W : World} {AA : Option Addr} {N : Nat} {acts : List ActV} (h : Acts w w.heap.size AA N acts) (hW : Below w.heap.size w W) : Acts W W.heap.size AA N acts :=
  ⟨h.1, fun h0 => by
    obtain ⟨b, o, e, hb, hc⟩ := h.2 h0
    exact ⟨b, o, e, Nat.lt_of_lt_of_le hb hW.size, fun k x hx => (hc k x hx).keep hW hb⟩⟩
theorem ActOk.up {w W : World} {x : ActV} (h : ActOk w w.heap.size x) (hW : Below w.heap.size w W) : ActOk W W.heap.size x := by
  obtain ⟨h1, h2⟩ := h
  refine ⟨⟨h1.1, fun h0 => ?_⟩, h2⟩
  obtain ⟨ad, e, had, hc⟩ := h1.2 h0
  exact ⟨ad, e, Nat.lt_of_lt_of_le had hW.size, fun j t ht => (hW.cell (p := ad.add j) (by rw [block_of_add]; exact had)).trans (hc j t ht)⟩
theorem OneCall.at {W : World} {f N : Nat} {es es' : List Ent} {r : Int} {p base b9 b0 : Nat} {u : Value} {a n al : Int} {es0 : List Ent} (h : OneCall f es es' r p base b9 b0 u a n al es0) (hS : St W base p b9 b0 u a n al es0 es) (hN : W.heap.size = N) :
    Calls Try.prog f #[.pointer (some ⟨p, 0, none⟩), .slice (some ⟨N, 0, none⟩) 1 1] (W.alloc (.cells #[.int .u64 a] 33)) fun e w' => e = .returned (.int .i64 r) ∧ St w' base p b9 b0 u a n al es0 es' ∧ Below base W w' := hN ▸ h W hS


theorem Tells.at {W : World} {p base b9 b0 : Nat} {u : Value} {a n al : Int} {es0 es : List Ent} {f : Nat} {x y z e : Int} (h : Tells p base b9 b0 u a n al es0 f es x y z e) (hS : St W base p b9 b0 u a n al es0 es) : Calls Try.prog f #[.pointer (some ⟨p, 0, none⟩), .int .u64 a] W fun r w' =>
    r = .returned (.tuple #[.agg #[.int .u64 x, .int .u64 y, .int .u64 z], .int .i64 e]) ∧ St w' base p b9 b0 u a n al es0 es ∧ Below base W w' := h W hS
theorem Frees.at {W : World} {p base b9 b0 : Nat} {u : Value} {a n al : Int} {es0 es : List Ent} {m : Int} {b : Bool} (h : Frees p base b9 b0 u a n al es0 es m b) (hS : St W base p b9 b0 u a n al es0 es) : Calls Try.prog 17 #[.pointer (some ⟨p, 0, none⟩), .int .u64 a, .int .u64 m] W fun r w' =>
    r = .returned (.bool b) ∧ St w' base p b9 b0 u a n al es0 es ∧ Below base W w' := h W hS
theorem Frees.cast {p base b9 b0 : Nat} {u : Value} {a n al : Int} {es0 es : List Ent} {m m' : Int} {b : Bool} (h : Frees p base b9 b0 u a n al es0 es m b) (e : m = m') : Frees p base b9 b0 u a n al es0 es m' b := e ▸ h
theorem Adds.at {W : World} {p base b9 b0 : Nat} {u : Value} {a n al : Int} {es0 es es' : List Ent} {e : Int} (h : Adds p base b9 b0 u a n al es0 es es' e) (hS : St W base p b9 b0 u a n al es0 es) : Calls Try.prog 18 #[.pointer (some ⟨p, 0, none⟩), .agg #[.int .u64 a, .int .u64 n, .int .u64 al]] W fun r w' =>
    r = .returned (.int .i64 e) ∧ St w' base p b9 b0 u a n al es0 es' ∧ Below base W w' := h W hS
theorem Alls.at {W : World} {p base b9 b0 : Nat} {u : Value} {a n al : Int} {es0 es : List Ent} (h : Alls p base b9 b0 u a n al es0 es) (hS : St W base p b9 b0 u a n al es0 es) : Calls Try.prog 9 #[.pointer (some ⟨p, 0, none⟩)] W fun r w' =>
    (∃ A c, r = .returned (.slice A es0.length c) ∧ (blks es = blks es0 → w'.ownsRow W.heap.size 35 3 (.slice A es0.length c) es0.length (blks es0))) ∧ St w' base p b9 b0 u a n al es0 es ∧ Below base W w' := h W hS
theorem at_nil (p base : Nat) (v : Value) (w4 : World) (hL : Led w4 base p v []) : Calls Try.prog 13 #[.pointer (some ⟨p, 0, none⟩), .int .u64 0] w4 fun r w' => r = .returned (.tuple #[.agg #[.int .u64 0, .int .u64 0, .int .u64 0], .int .i64 5]) ∧ Below w4.heap.size w4 w' :=
  at_any p base v [] 0 w4 (by simp) fit_nil.rising hL
theorem holds_case {base b0 p c4 : Nat} {A4 : Option Addr} {v : Value} {es : List Ent} {wh : Int} {w4 : World} (hF : Fit es) (hle : es.length ≤ 100) (ho : w4.ownsRow b0 35 3 (.slice A4 es.length c4) es.length (blks es)) (hL4 : Led w4 base p v es) :
    es = [] ∨ ∃ (i g : Nat) (ea en el : Int) (es1 es2 es3 es4 es5 es6 es7 : List Ent) (r1 : Int), A4 = some ⟨g, 0, none⟩ ∧ wh % (es.length : Int) = (i : Int) ∧ (i : Int) < es.length ∧ ((es.length : Int) == 0) = false ∧
      w4.cell? ⟨g, i * 3, none⟩ = some (.int .u64 ea) ∧ w4.cell? ⟨g, i * 3 + 1, none⟩ = some (.int .u64 en) ∧ w4.cell? ⟨g, i * 3 + 2, none⟩ = some (.int .u64 el) ∧ g < w4.heap.size ∧
      Hid (St (w4.alloc (.cells #[.int .u64 ea, .int .u64 en, .int .u64 el] 35)) base p w4.heap.size b0 (.slice A4 es.length c4) ea en el es es) ∧
      Hid (OneCall 14 es es1 r1 p base w4.heap.size b0 (.slice A4 es.length c4) ea en el es) ∧ Hid (Tells p base w4.heap.size b0 (.slice A4 es.length c4) ea en el es 13 es1 ea en el 0) ∧ Hid (OneCall 15 es1 es2 0 p base w4.heap.size b0 (.slice A4 es.length c4) ea en el es) ∧ Hid (OneCall 15 es2 es3 7 p base w4.heap.size b0 (.slice A4 es.length c4) ea en el es) ∧
      Hid (Tells p base w4.heap.size b0 (.slice A4 es.length c4) ea en el es 13 es3 0 0 0 7) ∧ Hid (Tells p base w4.heap.size b0 (.slice A4 es.length c4) ea en el es 16 es3 0 0 0 7) ∧ Hid (Frees p base w4.heap.size b0 (.slice A4 es.length c4) ea en el es es3 1 false) ∧ Hid (Adds p base w4.heap.size b0 (.slice A4 es.length c4) ea en el es es3 es3 6) ∧ Hid (Alls p base w4.heap.size b0 (.slice A4 es.length c4) ea en el es es3) ∧
      Hid (OneCall 14 es3 es4 0 p base w4.heap.size b0 (.slice A4 es.length c4) ea en el es) ∧ Hid (OneCall 14 es4 es5 8 p base w4.heap.size b0 (.slice A4 es.length c4) ea en el es) ∧ Hid (OneCall 19 es5 es6 0 p base w4.heap.size b0 (.slice A4 es.length c4) ea en el es) ∧ Hid (OneCall 19 es6 es6 5 p base w4.heap.size b0 (.slice A4 es.length c4) ea en el es) ∧
      Hid (Tells p base w4.heap.size b0 (.slice A4 es.length c4) ea en el es 13 es6 0 0 0 5) ∧ Hid (Frees p base w4.heap.size b0 (.slice A4 es.length c4) ea en el es es6 (max en 1) true) ∧ Hid (Adds p base w4.heap.size b0 (.slice A4 es.length c4) ea en el es es6 es7 0) ∧ Hid (Alls p base w4.heap.size b0 (.slice A4 es.length c4) ea en el es es7) ∧ Hid (blks es7 = blks es) := by
  by_cases hn : es.length = 0
  · exact .inl (List.length_eq_zero_iff.1 hn)
  · obtain ⟨i, hi⟩ : ∃ i : Nat, wh % (es.length : Int) = (i : Int) := ⟨(wh % (es.length : Int)).toNat, (Int.toNat_of_nonneg (Int.emod_nonneg _ (by omega))).symm⟩
    have hil : (i : Int) < es.length := by rw [← hi]; exact Int.emod_lt_of_pos _ (by omega)
    obtain ⟨e, he⟩ : ∃ e, es[i]? = some e := ⟨es[i]'(by omega), by simp [show i < es.length by omega]⟩
    obtain ⟨g, rfl, hg, h0, h1, h2⟩ := own_blk_at ho he
    obtain ⟨es1, es2, es3, es4, es5, es6, es7, r1, o1, t1, o2, o3, t3, i3, f3, d3, l3, o4, o5, o6, o7, t6, f6, d6, l7, zb⟩ := plan hF hle he p base w4.heap.size b0 (.slice (some ⟨g, 0, none⟩) es.length c4)
    exact .inr ⟨i, g, e.a, e.n, e.al, es1, es2, es3, es4, es5, es6, es7, r1, rfl, hi, hil, beq_eq_false_iff_ne.2 (by omega), h0, h1, h2, hg,
      ⟨⟨v, hL4.box _⟩, heap_alloc_new w4 _, own_mod (S := fun _ => False) ho ((Mod.refl _ w4).alloc _) (fun _ _ h => h)⟩, o1, t1, o2, o3, t3, i3, f3, d3, l3, o4, o5, o6, o7, t6, f6, d6, l7, zb⟩

set_option maxRecDepth 100000 in
set_option maxHeartbeats 4000000 in
theorem holds_walk (AA : Option Addr) (N C : Nat) (acts : List ActV) (wh : Int) (w : World) (hA : Acts w w.heap.size AA N acts) (hok : ∀ x ∈ acts, ActOk w w.heap.size x) (hN : N ≤ 9223372036854775807) (g0 : 0 ≤ wh) (g1 : wh ≤ 255) :
    Calls Try.prog 4 #[.slice AA N C, .int .u8 wh] w fun e w' => e = .returned (.bool true) ∧ Below w.heap.size w w' := by
  have HG : Hid (∀ W, Below w.heap.size w W → Calls Try.prog 6 #[.slice AA N C] W fun r w' => (∃ b, r = .returned (.bool b) ∧ (b = false → N ≤ 100)) ∧ Below W.heap.size W w') := Lib.hid (fun W hW => great_any AA N C acts W (hA.up hW) hN)
  have HFI : Hid (∀ W, Below w.heap.size w W → N ≤ 100 → Calls Try.prog 12 #[.slice AA N C] W fun r w' => ∃ p v es, r = .returned (.pointer (some ⟨p, 0, none⟩)) ∧ Led w' W.heap.size p v es ∧ Fit es ∧ es.length ≤ 100 ∧ Below W.heap.size W w') := Lib.hid (fun W hW h => filled_any AA N C acts W (hA.up hW) (fun x hx => (hok x hx).up hW) h)
  clear hA hok
  go_enter Try.func4, Try.ntmps4
  go_wp2_with (first
    | (go_at_call 5; refine (alive_any w).mono ?_; rintro r w1 ⟨rfl, hb1⟩; have hz1 := hb1.size)
    | (go_at_call 6; refine (HG.out _ hb1).mono ?_; rintro r w2 ⟨⟨b, rfl, hbN⟩, hb2⟩; have hz2 := hb2.size; have HB2 := Lib.hid (hb1.trans (hb2.mono hz1)); have HBN := Lib.hid hbN; clear hbN hb1 hb2; cases b))
  · have h100 : N ≤ 100 := HBN.out (by trivial)
    have hz : w.heap.size ≤ w2.heap.size := by omega
    go_wp2_with (first
      | (go_at_call 12; (with_reducible refine (HFI.out _ HB2.out h100).mono ?_); rintro r w3 ⟨p, v, es, rfl, hL3, hF, hle, hb3⟩; have HL3 := Lib.hid hL3; have HF := Lib.hid hF; have HB3 := Lib.hid (HB2.out.trans (hb3.mono hz)); have HB3' := Lib.hid hb3; have hz3 := hb3.size; clear hL3 hF hb3)
      | (go_at_call 9; (with_reducible refine (all_any p w2.heap.size v es w3 (by omega) HL3.out).mono ?_); rintro r w4 ⟨u, rfl, ho4, hb4⟩; obtain ⟨A4, c4, rfl, hnc, _⟩ := own_form ho4; have HO4 := Lib.hid ho4; have HB4 := Lib.hid hb4; have hz4 := hb4.size; clear ho4 hb4; rcases holds_case (wh := wh) HF.out hle HO4.out (HL3.out.below HB4.out (Nat.le_refl _)) with rfl | ⟨i, g, ea, en, el, es1, es2, es3, es4, es5, es6, es7, r1, rfl, hi, hil, hnz, h0, h1, h2, hg, S5, O1, T1, O2, O3, T3, I3, F3, D3, L3, O4, O5, O6, O7, T6, F6, D6, L7, ZB⟩)
      | (go_at_call 13; (with_reducible refine (at_nil p w2.heap.size v w4 (HL3.out.below HB4.out (Nat.le_refl _))).mono ?_); rintro r w5 ⟨rfl, hb5⟩; have HB5 := Lib.hid (HB4.out.trans (hb5.mono hz4)); have hz5 := hb5.size; clear hb5)
      | (go_at_call 10; (with_reducible refine (bytes_any p w2.heap.size v [] _ (by simp) HF.out (by exact HL3.out.below (HB5.out.alloc (by omega) (.cells #[.int .u64 0, .int .u64 0, .int .u64 0] 35)) (Nat.le_refl _))).mono ?_); rintro r w6 ⟨rfl, hb6⟩; have HB6 := Lib.hid (HB5.out.trans (((Below.refl _ w5).alloc (by omega) (.cells #[.int .u64 0, .int .u64 0, .int .u64 0] 35)).trans (hb6.mono (by simp; omega)))); clear hb6)
      | (go_at_call 14; (with_reducible refine (O1.out.at S5.out (by simp)).mono ?_); rintro r x1 ⟨rfl, hSx1, hbx1⟩; have Sx1 := Lib.hid hSx1; have hzx1 := hSx1.lt; obtain ⟨hkx10, hkx11, hkx12⟩ := hSx1.cells; have Bx1 := Lib.hid (((HB3'.out.trans (HB4.out.mono hz3)).alloc (by omega) _).trans hbx1); clear hSx1 hbx1)
      | (go_at_call 13; (with_reducible refine (T1.out.at Sx1.out).mono ?_); rintro r x2 ⟨rfl, hSx2, hbx2⟩; have Sx2 := Lib.hid hSx2; have hzx2 := hSx2.lt; obtain ⟨hkx20, hkx21, hkx22⟩ := hSx2.cells; have Bx2 := Lib.hid (Bx1.out.trans hbx2); clear hSx2 hbx2)
      | (go_at_call 15; (with_reducible refine (O2.out.at (Sx2.out.box_ (.cells #[.int .u64 ea, .int .u64 en, .int .u64 el] 35)) (by simp)).mono ?_); rintro r x3 ⟨rfl, hSx3, hbx3⟩; have Sx3 := Lib.hid hSx3; have hzx3 := hSx3.lt; obtain ⟨hkx30, hkx31, hkx32⟩ := hSx3.cells; have Bx3 := Lib.hid ((Bx2.out.alloc Sx2.out.base_le (.cells #[.int .u64 ea, .int .u64 en, .int .u64 el] 35)).trans hbx3); clear hSx3 hbx3)
      | (go_at_call 15; (with_reducible refine (O3.out.at Sx3.out rfl).mono ?_); rintro r x4 ⟨rfl, hSx4, hbx4⟩; have Sx4 := Lib.hid hSx4; have hzx4 := hSx4.lt; obtain ⟨hkx40, hkx41, hkx42⟩ := hSx4.cells; have Bx4 := Lib.hid (Bx3.out.trans hbx4); clear hSx4 hbx4)
      | (go_at_call 13; (with_reducible refine (T3.out.at Sx4.out).mono ?_); rintro r x5 ⟨rfl, hSx5, hbx5⟩; have Sx5 := Lib.hid hSx5; have hzx5 := hSx5.lt; obtain ⟨hkx50, hkx51, hkx52⟩ := hSx5.cells; have Bx5 := Lib.hid (Bx4.out.trans hbx5); clear hSx5 hbx5)
      | (go_at_call 16; (with_reducible refine (I3.out.at Sx5.out).mono ?_); rintro r x6 ⟨rfl, hSx6, hbx6⟩; have Sx6 := Lib.hid hSx6; have hzx6 := hSx6.lt; obtain ⟨hkx60, hkx61, hkx62⟩ := hSx6.cells; have Bx6 := Lib.hid (Bx5.out.trans hbx6); clear hSx6 hbx6)
      | (go_at_call 17; (with_reducible refine (F3.out.at (Sx6.out.box_ (.cells #[.int .u64 0, .int .u64 0, .int .u64 0] 35))).mono ?_); rintro r x7 ⟨rfl, hSx7, hbx7⟩; have Sx7 := Lib.hid hSx7; have hzx7 := hSx7.lt; obtain ⟨hkx70, hkx71, hkx72⟩ := hSx7.cells; have Bx7 := Lib.hid ((Bx6.out.alloc Sx6.out.base_le (.cells #[.int .u64 0, .int .u64 0, .int .u64 0] 35)).trans hbx7); clear hSx7 hbx7)
      | (go_at_call 18; (with_reducible refine (D3.out.at Sx7.out).mono ?_); rintro r x8 ⟨rfl, hSx8, hbx8⟩; have Sx8 := Lib.hid hSx8; have hzx8 := hSx8.lt; obtain ⟨hkx80, hkx81, hkx82⟩ := hSx8.cells; have Bx8 := Lib.hid (Bx7.out.trans hbx8); clear hSx8 hbx8)
      | (go_at_call 9; (with_reducible refine (L3.out.at Sx8.out).mono ?_); rintro r x9 ⟨⟨Ax9, cx9, rfl, hOx9⟩, hSx9, hbx9⟩; have Ox9 := Lib.hid hOx9; have Sx9 := Lib.hid hSx9; have hzx9 := hSx9.lt; obtain ⟨hkx90, hkx91, hkx92⟩ := hSx9.cells; have Bx9 := Lib.hid (Bx8.out.trans hbx9); clear hOx9 hSx9 hbx9)
      | (go_at_call 14; (with_reducible refine (O4.out.at Sx9.out rfl).mono ?_); rintro r y1 ⟨rfl, hSy1, hby1⟩; have Sy1 := Lib.hid hSy1; have hzy1 := hSy1.lt; obtain ⟨hky10, hky11, hky12⟩ := hSy1.cells; have By1 := Lib.hid (Bx9.out.trans hby1); clear hSy1 hby1)
      | (go_at_call 14; (with_reducible refine (O5.out.at Sy1.out rfl).mono ?_); rintro r y2 ⟨rfl, hSy2, hby2⟩; have Sy2 := Lib.hid hSy2; have hzy2 := hSy2.lt; obtain ⟨hky20, hky21, hky22⟩ := hSy2.cells; have By2 := Lib.hid (By1.out.trans hby2); clear hSy2 hby2)
      | (go_at_call 19; (with_reducible refine (O6.out.at Sy2.out rfl).mono ?_); rintro r y3 ⟨rfl, hSy3, hby3⟩; have Sy3 := Lib.hid hSy3; have hzy3 := hSy3.lt; obtain ⟨hky30, hky31, hky32⟩ := hSy3.cells; have By3 := Lib.hid (By2.out.trans hby3); clear hSy3 hby3)
      | (go_at_call 19; (with_reducible refine (O7.out.at Sy3.out rfl).mono ?_); rintro r y4 ⟨rfl, hSy4, hby4⟩; have Sy4 := Lib.hid hSy4; have hzy4 := hSy4.lt; obtain ⟨hky40, hky41, hky42⟩ := hSy4.cells; have By4 := Lib.hid (By3.out.trans hby4); clear hSy4 hby4)
      | (go_at_call 13; (with_reducible refine (T6.out.at Sy4.out).mono ?_); rintro r y5 ⟨rfl, hSy5, hby5⟩; have Sy5 := Lib.hid hSy5; have hzy5 := hSy5.lt; obtain ⟨hky50, hky51, hky52⟩ := hSy5.cells; have By5 := Lib.hid (By4.out.trans hby5); clear hSy5 hby5)
      | (go_at_call 17; (with_reducible refine ((F6.out.cast (by omega)).at Sy5.out).mono ?_); rintro r y6 ⟨rfl, hSy6, hby6⟩; have Sy6 := Lib.hid hSy6; have hzy6 := hSy6.lt; obtain ⟨hky60, hky61, hky62⟩ := hSy6.cells; have By6 := Lib.hid (By5.out.trans hby6); clear hSy6 hby6)
      | (go_at_call 18; (with_reducible refine (D6.out.at Sy6.out).mono ?_); rintro r y7 ⟨rfl, hSy7, hby7⟩; have Sy7 := Lib.hid hSy7; have hzy7 := hSy7.lt; obtain ⟨hky70, hky71, hky72⟩ := hSy7.cells; have By7 := Lib.hid (By6.out.trans hby7); clear hSy7 hby7)
      | (go_at_call 9; (with_reducible refine (L7.out.at Sy7.out).mono ?_); rintro r y8 ⟨⟨Ay8, cy8, rfl, hOy8⟩, hSy8, hby8⟩; have Oy8 := Lib.hid hOy8; have Sy8 := Lib.hid hSy8; have hzy8 := hSy8.lt; obtain ⟨hky80, hky81, hky82⟩ := hSy8.cells; have By8 := Lib.hid (By7.out.trans hby8); clear hOy8 hSy8 hby8; have OY8 := Lib.hid (Oy8.out ZB.out))
      | (go_at_call 8; (with_reducible refine (same_any _ _ cy8 c4 Ay8 _ es y8 (by omega) OY8.out Sy8.out.own).mono ?_); rintro r y9 ⟨rfl, hby9⟩; have By9 := Lib.hid (By8.out.trans (hby9.mono Sy8.out.base_le))))
    all_goals go_ret
    · exact ⟨ret_bool (by first | rfl | simp [bytesI]), HB3.out.trans (HB6.out.mono (by omega))⟩
    all_goals exact ⟨ret_bool (by first | rfl | simp), HB2.out.trans (By9.out.mono hz)⟩
  · go_wp2
    go_ret
    exact ⟨rfl, HB2.out⟩
end Go.Proofs.Ytgkloacfickeaaa
