/- The places' own functions: Index, Contains, row, set, Mark, Free, Left, New. -/
import Derived.Test.YtjcnaefgffnphaaBits
import Derived.Test.YtjcnaefgffnphaaRow
import Derived.Test.YtjcnaefgffnphaaProg
import Derived.Deep.QuietTactic
import Derived.BigQuiet
import Derived.Deep.OwnRows
namespace Go.Proofs.Ytjcnaefgffnphaa
open Go.RowKit
set_option linter.unusedVariables false

theorem index_any (g o n c : Nat) (f : Nat → Bool) (b : Bool) (w : World) (hn : n ≤ 1000000) (hc : ∀ j, j < n → w.cell? ⟨g, o + j, none⟩ = some (.bool (f j))) :
    Calls Try.prog 46 #[.slice (some ⟨g, o, none⟩) n c, .bool b] w fun e w' => e = .returned (.int .i64 (idxI f b n)) ∧ w = w' := by
  have HC := Lib.hid hc
  clear hc
  go_enter Try.func46, Try.ntmps46
  go_wp2
  go_loop [8] (fun i => ∃ k : Nat, k ≤ n ∧ i = .int .i64 k ∧ ∀ j, j < k → f j ≠ b) (fun i => n - (intOf i).toNat)
  case atStart => exact ⟨0, Nat.zero_le _, rfl, fun j hj => by omega⟩
  case round =>
    obtain ⟨k, hk, rfl, hne⟩ := hrel
    have HN := Lib.hid hne
    clear hne
    by_cases hlt : k < n
    · have hck := HC.out k hlt
      have hki : (k : Int) < n := by omega
      obtain ⟨x, hx⟩ : ∃ x, f k = x := ⟨_, rfl⟩
      rw [hx] at hck
      have HX := Lib.hid hx
      clear hx
      by_cases hb : b = x
      · have hb1 : (b == x) = true := by simp [hb]
        have HB := Lib.hid hb
        clear hb
        go_wp2
        go_ret
        exact ⟨ret_int (idxI_hit hlt (by rw [HX.out, HB.out]) HN.out).symm, rfl⟩
      · have hb1 : (b == x) = false := by simpa using hb
        have HB := Lib.hid hb
        clear hb
        go_wp2
        go_round
        case rel => exact ⟨k + 1, by omega, by go_num, fun j hj => by
          by_cases h : j = k
          · subst h; rw [HX.out]; exact fun h => HB.out h.symm
          · exact HN.out j (by omega)⟩
        case measure => simp [intOf]; omega
    · obtain rfl : k = n := by omega
      have hki : decide ((k : Int) < k) = false := by simp
      go_wp2
      go_ret
      exact ⟨ret_int (idxI_miss HN.out).symm, rfl⟩

theorem contains_any (g o n c : Nat) (f : Nat → Bool) (b : Bool) (w : World) (hn : n ≤ 1000000) (hc : ∀ j, j < n → w.cell? ⟨g, o + j, none⟩ = some (.bool (f j))) (h : ∀ j, j < n → f j ≠ b) :
    Calls Try.prog 49 #[.slice (some ⟨g, o, none⟩) n c, .bool b] w fun e w' => e = .returned (.bool false) ∧ w = w' := by
  have HI := Lib.hid (index_any g o n c f b w hn hc)
  have HM := Lib.hid (idxI_miss (n := n) h)
  clear hc h
  go_enter Try.func49, Try.ntmps49
  go_wp2_with (go_at_call 46; (with_reducible refine HI.out.mono ?_); rintro e w' ⟨rfl, rfl⟩; rw [HM.out])
  go_ret
  exact ⟨rfl, rfl⟩

/-- Places at block p: their states lie in block g. -/
structure Mk (w : World) (p g n : Nat) (f : Nat → Bool) : Prop where
  ne : p ≠ g
  at_ : w.heap[p]? = some (.cells #[.slice (some ⟨g, 0, none⟩) n n, .int .i64 (freeC f n)] 72 (0, 0))
  row : ∃ cur : Array Value, w.heap[g]? = some (.cells cur 4 (0, 0)) ∧ cur.size = n ∧ ∀ j, j < n → cur[j]? = some (.bool (f j))
def MS (p g : Nat) : Nat → Prop := fun k => k = p ∨ k = g

section
variable {w w' : World} {p g n : Nat} {f f' : Nat → Bool}
theorem Mk.congr (h : Mk w p g n f) (hf : ∀ j, j < n → f j = f' j) : Mk w p g n f' := by
  obtain ⟨cur, h1, h2, h3⟩ := h.row
  exact ⟨h.ne, by rw [← freeC_congr hf]; exact h.at_, cur, h1, h2, fun j hj => by rw [← hf j hj]; exact h3 j hj⟩
theorem Mk.plt (h : Mk w p g n f) : p < w.heap.size := (Array.getElem?_eq_some_iff.1 h.at_).1
theorem Mk.glt (h : Mk w p g n f) : g < w.heap.size := by obtain ⟨_, h1, _⟩ := h.row; exact (Array.getElem?_eq_some_iff.1 h1).1
theorem Mk.cell0 (h : Mk w p g n f) : w.cell? ⟨p, 0, none⟩ = some (.slice (some ⟨g, 0, none⟩) n n) := by simp [World.cell?, h.at_]
theorem Mk.cell1 (h : Mk w p g n f) : w.cell? ⟨p, 1, none⟩ = some (.int .i64 (freeC f n)) := by simp [World.cell?, h.at_]
theorem Mk.frozen (h : Mk w p g n f) (j : Nat) : w.frozen? ⟨p, j, none⟩ = false := by simp [World.frozen?, h.at_]
theorem Mk.cell (h : Mk w p g n f) {j : Nat} (hj : j < n) : w.cell? ⟨g, j, none⟩ = some (.bool (f j)) := by
  obtain ⟨cur, h1, h2, h3⟩ := h.row
  have := h3 j hj
  simp [World.cell?, h1, this]
theorem Mk.mod {S : Nat → Prop} (h : Mk w p g n f) (hm : Mod S w w') (hp : ¬ S p) (hg : ¬ S g) : Mk w' p g n f := by
  obtain ⟨cur, h1, h2, h3⟩ := h.row
  exact ⟨h.ne, (hm.block p h.plt hp).trans h.at_, cur, (hm.block g h.glt hg).trans h1, h2, h3⟩
theorem Mk.below {B : Nat} (h : Mk w p g n f) (hb : Below B w w') (hp : p < B) (hg : g < B) : Mk w' p g n f := by
  obtain ⟨cur, h1, h2, h3⟩ := h.row
  exact ⟨h.ne, (hb.block p hp).trans h.at_, cur, (hb.block g hg).trans h1, h2, h3⟩
end

set_option maxHeartbeats 400000 in
theorem row_any (p g n a r : Nat) (no : Bool) (er : Int) (f : Nat → Bool) (w : World) (hn : n ≤ 1000000) (hM : Mk w p g n f) (hr : 0 < r) (har : a + r ≤ n) (h : ∀ j, a ≤ j → j < a + r → f j ≠ no) :
    Calls Try.prog 43 #[.pointer (some ⟨p, 0, none⟩), .int .i64 a, .int .i64 r, .bool no, .int .i64 er] w fun e w' => e = .returned (.tuple #[.slice (some ⟨g, a, none⟩) r (n - a), .int .i64 0]) ∧ w = w' := by
  have hc0 := hM.cell0
  have HC := Lib.hid (contains_any g a r (n - a) (fun j => f (a + j)) no w (by omega) (fun j hj => hM.cell (by omega)) (fun j hj => h _ (by omega) (by omega)))
  clear hM h
  have h1 : (1 : Int) ≤ r := by omega
  have h2 : (0 : Int) ≤ a := by omega
  have h3 : (a : Int) < n := by omega
  have h4 : (r : Int) ≤ n - a := by omega
  have h5 : (a : Int) ≤ a + r := by omega
  have h6 : (a : Int) + r ≤ n := by omega
  have h7 : ¬ n = a := by omega
  have h8 : a ≤ n := by omega
  go_enter Try.func43, Try.ntmps43
  go_wp2_with (go_at_call 49; refine HC.out.mono ?_; rintro e w' ⟨rfl, rfl⟩)
  go_ret2
  exact ⟨congrArg (fun x => Ending.returned (.tuple #[.slice (some ⟨g, a, none⟩) x (n - a), .int .i64 0])) (show a + r - a = r by omega), rfl⟩

/-- Of a row k places were set. -/
def SetAt (w wr : World) (g n a k : Nat) (b : Bool) (f : Nat → Bool) : Prop :=
  Mod (fun j => j = g) w wr ∧ ∃ cur : Array Value, wr.heap[g]? = some (.cells cur 4 (0, 0)) ∧ cur.size = n ∧ ∀ j, j < n → cur[j]? = some (.bool (upd f a k b j))
theorem SetAt.cell {w wr : World} {g n a k : Nat} {b : Bool} {f : Nat → Bool} (h : SetAt w wr g n a k b f) {j : Nat} (hj : j < n) : wr.cell? ⟨g, j, none⟩ = some (.bool (upd f a k b j)) := by
  obtain ⟨_, cur, h1, h2, h3⟩ := h
  have := h3 j hj
  simp [World.cell?, h1, this]
theorem SetAt.frozen {w wr : World} {g n a k : Nat} {b : Bool} {f : Nat → Bool} (h : SetAt w wr g n a k b f) (j : Nat) : wr.frozen? ⟨g, j, none⟩ = false := by
  obtain ⟨_, cur, h1, h2, h3⟩ := h
  simp [World.frozen?, h1]
theorem SetAt.next {w wr : World} {g n a k : Nat} {b : Bool} {f : Nat → Bool} (h : SetAt w wr g n a k b f) (hk : a + k < n) : SetAt w (wr.setCell ⟨g, a + k, none⟩ (.bool b)) g n a (k + 1) b f := by
  obtain ⟨hm, cur, h1, h2, h3⟩ := h
  refine ⟨hm.setCell (p := ⟨g, a + k, none⟩) (fun _ => rfl) _, _, heap_setCell_same wr g (a + k) cur 4 _ h1, by simpa using h2, fun j hj => ?_⟩
  by_cases hjk : j = a + k
  · subst hjk
    rw [Array.getElem?_setIfInBounds_self_of_lt (by omega)]
    unfold upd
    rw [if_pos (by omega)]
  · rw [Array.getElem?_setIfInBounds_ne (by omega), h3 j hj]
    unfold upd
    by_cases h : a ≤ j ∧ j < a + k
    · rw [if_pos h, if_pos (by omega)]
    · rw [if_neg h, if_neg (by omega)]
theorem SetAt.end_ {w wr : World} {p g n a r : Nat} {b : Bool} {f : Nat → Bool} (hM : Mk w p g n f) (h : SetAt w wr g n a r b f) (x : Int) (hx : x = freeC (upd f a r b) n) :
    Mod (MS p g) w (wr.setCell ⟨p, 1, none⟩ (.int .i64 x)) ∧ Mk (wr.setCell ⟨p, 1, none⟩ (.int .i64 x)) p g n (upd f a r b) := by
  obtain ⟨hm, cur, h1, h2, h3⟩ := h
  have hp : wr.heap[p]? = some (.cells #[.slice (some ⟨g, 0, none⟩) n n, .int .i64 (freeC f n)] 72 (0, 0)) := (hm.block p hM.plt hM.ne).trans hM.at_
  refine ⟨(hm.mono (fun k _ e => .inr e)).setCell (p := ⟨p, 1, none⟩) (fun _ => .inl rfl) _, hM.ne, ?_, cur, ?_, h2, h3⟩
  · have := heap_setCell_same wr p 1 _ 72 (.int .i64 x) hp
    rw [this, hx]; rfl
  · rw [heap_setCell_other _ _ _ _ (fun e => hM.ne e.symm)]; exact h1

set_option maxHeartbeats 400000 in
theorem set_any (p g n a r c : Nat) (b : Bool) (f : Nat → Bool) (w : World) (hn : n ≤ 1000000) (hM : Mk w p g n f) (har : a + r ≤ n) (h : ∀ j, a ≤ j → j < a + r → f j = !b) :
    Calls Try.prog 44 #[.pointer (some ⟨p, 0, none⟩), .slice (some ⟨g, a, none⟩) r c, .bool b] w fun e w' => e = .returned (.tuple #[]) ∧ Mod (MS p g) w w' ∧ Mk w' p g n (upd f a r b) := by
  have HM := Lib.hid hM
  have hcnt : (freeC (upd f a r b) n : Int) = if b then (freeC f n : Int) - r else (freeC f n : Int) + r := by
    cases b
    · have := freeC_false (f := f) (a := a) (r := r) (fun j h1 h2 => h j h1 h2) n
      rw [if_neg (by simp)]; omega
    · have := freeC_true (f := f) (a := a) (r := r) (fun j h1 h2 => h j h1 h2) n
      rw [if_pos rfl]; omega
  have hle := freeC_le f n
  have HCN := Lib.hid hcnt
  have hne := hM.ne
  clear hM h hcnt
  go_enter Try.func44, Try.ntmps44
  go_wp2
  go_loopw [9] (fun i wr => ∃ k : Nat, k ≤ r ∧ i = .int .i64 k ∧ SetAt w wr g n a k b f) (fun i _ => r - (intOf i).toNat)
  case atStart =>
    obtain ⟨cur, h1, h2, h3⟩ := HM.out.row
    exact ⟨0, Nat.zero_le _, rfl, Mod.refl _ _, cur, h1, h2, fun j hj => by rw [h3 j hj]; unfold upd; rw [if_neg (by omega)]⟩
  case round =>
    obtain ⟨k, hk, rfl, hS⟩ := hrel
    by_cases hlt : k < r
    · have hck := hS.cell (j := a + k) (by omega)
      have hfk := hS.frozen (a + k)
      have hki : (k : Int) < r := by omega
      have HS := Lib.hid (hS.next (by omega))
      clear hS
      go_wp2
      go_roundw
      case rel => exact ⟨k + 1, by omega, by go_num, HS.out⟩
      case measure => simp [intOf]; omega
    · obtain rfl : k = r := by omega
      have hp : wr.heap[p]? = some (.cells #[.slice (some ⟨g, 0, none⟩) n n, .int .i64 (freeC f n)] 72 (0, 0)) := (hS.1.block p HM.out.plt hne).trans HM.out.at_
      have hc1 : wr.cell? ⟨p, 1, none⟩ = some (.int .i64 (freeC f n)) := by simp [World.cell?, hp]
      have hf1 : wr.frozen? ⟨p, 1, none⟩ = false := by simp [World.frozen?, hp]
      have hki : decide ((k : Int) < k) = false := by simp
      have HE := Lib.hid (fun x hx => SetAt.end_ HM.out hS x hx)
      clear hS hp
      cases b
      · go_wp2
        go_end0
        exact ⟨rfl, HE.out _ (by rw [HCN.out]; rfl)⟩
      · go_wp2
        go_end0
        exact ⟨rfl, HE.out _ (by rw [HCN.out]; rfl)⟩

theorem mark_any (p g n a r : Nat) (f : Nat → Bool) (w : World) (hn : n ≤ 1000000) (hM : Mk w p g n f) (hr : 0 < r) (har : a + r ≤ n) (h : ∀ j, a ≤ j → j < a + r → f j = false) :
    Calls Try.prog 37 #[.pointer (some ⟨p, 0, none⟩), .int .i64 a, .int .i64 r] w fun e w' => e = .returned (.int .i64 0) ∧ Mod (MS p g) w w' ∧ Mk w' p g n (upd f a r true) := by
  have H1 := Lib.hid (row_any p g n a r true 6 f w hn hM hr har (fun j h1 h2 => by rw [h j h1 h2]; simp))
  have H2 := Lib.hid (set_any p g n a r (n - a) true f w hn hM har (fun j h1 h2 => by rw [h j h1 h2]; rfl))
  clear hM h
  go_enter Try.func37, Try.ntmps37
  go_wp2_with (first | (go_at_call 43; (with_reducible refine H1.out.mono ?_); rintro e w' ⟨rfl, rfl⟩) | (go_at_call 44; (with_reducible refine H2.out.mono ?_); rintro e w' ⟨rfl, hm, hk⟩; have HK := Lib.hid hk; clear hk))
  go_ret
  exact ⟨rfl, hm, HK.out⟩

theorem free_any (p g n a r : Nat) (f : Nat → Bool) (w : World) (hn : n ≤ 1000000) (hM : Mk w p g n f) (hr : 0 < r) (har : a + r ≤ n) (h : ∀ j, a ≤ j → j < a + r → f j = true) :
    Calls Try.prog 31 #[.pointer (some ⟨p, 0, none⟩), .int .i64 a, .int .i64 r] w fun e w' => e = .returned (.int .i64 0) ∧ Mod (MS p g) w w' ∧ Mk w' p g n (upd f a r false) := by
  have H1 := Lib.hid (row_any p g n a r false 5 f w hn hM hr har (fun j h1 h2 => by rw [h j h1 h2]; simp))
  have H2 := Lib.hid (set_any p g n a r (n - a) false f w hn hM har (fun j h1 h2 => by rw [h j h1 h2]; rfl))
  clear hM h
  go_enter Try.func31, Try.ntmps31
  go_wp2_with (first | (go_at_call 43; (with_reducible refine H1.out.mono ?_); rintro e w' ⟨rfl, rfl⟩) | (go_at_call 44; (with_reducible refine H2.out.mono ?_); rintro e w' ⟨rfl, hm, hk⟩; have HK := Lib.hid hk; clear hk))
  go_ret
  exact ⟨rfl, hm, HK.out⟩

theorem left_any (p g n : Nat) (f : Nat → Bool) (w : World) (hM : Mk w p g n f) :
    Calls Try.prog 33 #[.pointer (some ⟨p, 0, none⟩)] w fun e w' => e = .returned (.int .i64 (freeC f n)) ∧ w = w' := by
  have h1 := hM.cell1
  clear hM
  go_enter Try.func33, Try.ntmps33
  go_wp2
  go_ret
  exact ⟨rfl, rfl⟩

theorem info4 : (Try.prog.info? 4).map (fun i => (i.zero, i.size, i.bytes)) = some (some (.bool false), 1, 1) := by kernel_rfl
theorem made_all (z : Value) (n : Nat) : (madeCells #[z] n).size = n ∧ ∀ j, j < n → (madeCells #[z] n)[j]? = some z := by
  unfold madeCells
  refine ⟨by simp, fun j hj => ?_⟩
  simp [hj, Nat.mod_one]
theorem mk_new (n : Nat) (C : Array Value) (w : World) (hC : C.size = n ∧ ∀ j, j < n → C[j]? = some (.bool false)) :
    Mk ((w.alloc (.cells C 4)).alloc (.cells #[.slice (some ⟨w.heap.size, 0, none⟩) n n, .int .i64 n] 72)) (w.heap.size + 1) w.heap.size n (fun _ => false) := by
  refine ⟨by omega, ?_, C, ?_, hC.1, hC.2⟩
  · have h := heap_alloc_new (w.alloc (.cells C 4)) (.cells #[.slice (some ⟨w.heap.size, 0, none⟩) n n, .int .i64 n] 72)
    rw [World.size_alloc] at h
    rw [h, freeC_all]
  · exact (Below.heap_alloc _ _ _ (by simp)).trans (heap_alloc_new w _)
theorem markNew_any (n : Nat) (w : World) (h1 : 1 ≤ n) (h2 : n ≤ 256) :
    Calls Try.prog 26 #[.int .i64 n] w fun e w' => e = .returned (.tuple #[.pointer (some ⟨w.heap.size + 1, 0, none⟩), .int .i64 0]) ∧ Below w.heap.size w w' ∧ Mk w' (w.heap.size + 1) w.heap.size n (fun _ => false) ∧ w'.heap.size = w.heap.size + 2 := by
  have h3 : (1 : Int) ≤ n := by omega
  have h4 : (n : Int) ≤ 256 := by omega
  obtain ⟨C, hC⟩ : ∃ C, C = madeCells #[Value.bool false] n := ⟨_, rfl⟩
  have hmk : ∀ w, (Instr.makeSlice 32 (.int .i64 n) (.int .i64 n)).run Try.prog w = .ok (.slice (some ⟨w.heap.size, 0, none⟩) n n) (w.alloc (.cells C 4)) := fun w => by
    obtain ⟨i, hi, hz, hs, hb⟩ := info_parts info4
    rw [hC]
    exact run_make_row 32 4 i (.bool false) Try.underlying32 hi hz hs rfl .i64 .i64 n (by rw [hb]; omega) (by omega) w
  have HC := Lib.hid (hC ▸ made_all (.bool false) n)
  clear hC
  go_enter Try.func26, Try.ntmps26
  go_wp2
  go_ret2
  exact ⟨rfl, ((Below.refl _ w).alloc (Nat.le_refl _) _).alloc (by simp) _, mk_new n C w HC.out, by simp⟩
end Go.Proofs.Ytjcnaefgffnphaa
