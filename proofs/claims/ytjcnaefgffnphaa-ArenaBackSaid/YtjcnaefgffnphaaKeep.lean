/- The arena's contracts where others' blocks are to stay; sum, lowest. -/
import Derived.Test.YtjcnaefgffnphaaLimit
import Derived.Test.YtjcnaefgffnphaaBackLaw
namespace Go.Proofs.Ytjcnaefgffnphaa
open Go.RowKit
set_option linter.unusedVariables false

/-- An arena none of whose blocks is of E. -/
def ArE (E : Nat → Prop) (w : World) (p : Nat) (s : St) : Prop := ∃ pm g vR vT, Ar0 w p pm g vR vT s ∧ ∀ k, AB p pm g vR vT k → ¬ E k
section
variable {E : Nat → Prop} {B p : Nat} {w w' w0 : World} {s s' : St}
theorem ArE.of_arn (h : Arn B w0 p s) (hb : Below w0.heap.size w0 w) : ArE (fun k => k < B ∨ (w0.heap.size ≤ k ∧ k < w.heap.size)) w p s := by
  obtain ⟨pm, g, vR, vT, h1, h2⟩ := h
  refine ⟨pm, g, vR, vT, h1.below hb, fun k hk he => ?_⟩
  have := h2 k hk
  have := h1.lt k hk
  omega
theorem ArE.below (h : ArE E w p s) (hb : Below w.heap.size w w') : ArE E w' p s := by
  obtain ⟨pm, g, vR, vT, h1, h2⟩ := h
  exact ⟨pm, g, vR, vT, h1.below hb, h2⟩
theorem ArE.ok (h : ArE E w p s) : s.Ok := by obtain ⟨pm, g, vR, vT, h1, h2⟩ := h; exact h1.ok
theorem ArE.left {pm g : Nat} {vR vT : Value} (h : Ar0 w p pm g vR vT s) (h2 : ∀ k, AB p pm g vR vT k → ¬ E k) (hE : ∀ k, E k → k < w.heap.size) (hL : Left w p pm g vR vT s' w') : ArE E w' p s' ∧ Mod (fun k => ¬ E k) w w' := by
  obtain ⟨vR', vT', h3, hm, hf⟩ := hL
  exact ⟨⟨pm, g, vR', vT', h3, fun k hk he => (hf k hk).elim (fun h => h2 k h he) (fun h => by have := hE k he; omega)⟩, hm.mono (fun k _ hk => h2 k hk)⟩
end
theorem res_e {E : Nat → Prop} {p : Nat} {s s' : St} {n a e : Int} {w : World} (h : ArE E w p s) (hE : ∀ k, E k → k < w.heap.size) (hf : s.refused + 1 ≤ 1000000) (he : resS s n = (a, e, s')) :
    Calls Try.prog 11 #[.pointer (some ⟨p, 0, none⟩), .int .i64 n] w fun r w' => r = .returned (.tuple #[.int .i64 a, .int .i64 e]) ∧ ArE E w' p s' ∧ Mod (fun k => ¬ E k) w w' := by
  obtain ⟨pm, g, vR, vT, h1, h2⟩ := h
  exact (reserve_any p pm g vR vT s n w h1 hf).mono fun r w' ⟨a, b⟩ => by rw [he] at a b; exact ⟨a, ArE.left h1 h2 hE b⟩
theorem rel_e {E : Nat → Prop} {p : Nat} {s s' : St} {t e : Int} {w : World} (h : ArE E w p s) (hE : ∀ k, E k → k < w.heap.size) (he : relS s t = (e, s')) :
    Calls Try.prog 12 #[.pointer (some ⟨p, 0, none⟩), .int .i64 t] w fun r w' => r = .returned (.int .i64 e) ∧ ArE E w' p s' ∧ Mod (fun k => ¬ E k) w w' := by
  obtain ⟨pm, g, vR, vT, h1, h2⟩ := h
  exact (release_any p pm g vR vT s t w h1).mono fun r w' ⟨a, b⟩ => by rw [he] at a b; exact ⟨a, ArE.left h1 h2 hE b⟩
theorem giv_e {E : Nat → Prop} {p : Nat} {s : St} {w : World} (h : ArE E w p s) : Calls Try.prog 13 #[.pointer (some ⟨p, 0, none⟩)] w fun r w' => r = .returned (.int .i64 (given s.L)) ∧ ∃ n, w' = w.drewN n := by
  obtain ⟨pm, g, vR, vT, h1, h2⟩ := h
  exact given_any p pm g vR vT s w h1
theorem regs_e {E : Nat → Prop} {p : Nat} {s : St} {w : World} (h : ArE E w p s) : Calls Try.prog 16 #[.pointer (some ⟨p, 0, none⟩)] w fun r w' => ∃ A c, r = .returned (.slice A s.L.length c) ∧ Below w.heap.size w w' := by
  obtain ⟨pm, g, vR, vT, h1, h2⟩ := h
  exact (regions_any p pm g vR vT s w h1).mono fun r w' ⟨u, a, b, c⟩ => by
    obtain ⟨A, cc, rfl, _, _⟩ := b.form
    exact ⟨A, cc, a, c⟩

theorem sum_any (base c : Nat) (A : Option Addr) (L : List Reg) (w : World) (hl : L.length ≤ 64) (hb : ∀ r ∈ L, r.n ≤ 64) (ho : OwnR w base (.slice A L.length c) L) :
    Calls Try.prog 17 #[.slice A L.length c] w fun r w' => r = .returned (.int .i64 (given L)) ∧ Below w.heap.size w w' := by
  have HO := Lib.hid ho
  have HBN := Lib.hid hb
  clear ho hb
  go_enter Try.func17, Try.ntmps17
  go_wp2
  go_loopw [3, 8] (fun sm i wr => ∃ k : Nat, k ≤ L.length ∧ i = .int .i64 k ∧ sm = .int .i64 (given (L.take k)) ∧ given (L.take k) ≤ k * 64 ∧ Below w.heap.size w wr) (fun _ i _ => L.length - (intOf i).toNat)
  case atStart => exact ⟨0, Nat.zero_le _, rfl, by simp [given], by simp [given], Below.refl _ _⟩
  case round =>
    obtain ⟨k, hk, rfl, rfl, hgk, hB⟩ := hrel
    by_cases hlt : k < L.length
    · obtain ⟨r, hr⟩ : ∃ r, L[k]? = some r := ⟨L[k], by simp [hlt]⟩
      have hot : OwnR _ _ _ L := HO.out.mod (S := fun _ => False) (Mod.of_below hB (Nat.le_refl _)) (fun _ _ h => h)
      obtain ⟨g, rfl, _, _, h0, h1, _⟩ := hot.at hr
      have hki : (k : Int) < L.length := by omega
      have hrn := HBN.out r (List.mem_of_getElem? hr)
      have hrnI : (r.n : Int) ≤ 64 := by omega
      have hgI : (given (L.take k) : Int) ≤ 5000 := by omega
      have HS := Lib.hid (given_snoc hr)
      have HB := Lib.hid hB
      clear hot hr hB
      go_wp2
      go_roundw
      case rel => exact ⟨k + 1, by omega, by go_num, by rw [HS.out]; go_num, by rw [HS.out]; omega, HB.out.alloc HB.out.size _⟩
      case measure => simp [intOf]; omega
    · obtain rfl : k = L.length := by omega
      rw [List.take_length]
      go_wp2
      go_ret
      exact ⟨rfl, hB⟩


set_option maxHeartbeats 2000000 in
theorem lowest_any (base c Q : Nat) (A : Option Addr) (L : List Reg) (x : Reg) (w : World) (hl : L.length ≤ 64) (hb : ∀ r ∈ L, r.a + r.n ≤ 64) (hx : x.a + x.n ≤ 64) (ho : OwnR w base (.slice A L.length c) L)
    (hQ : Q ≤ 64) (h1 : meetsX L x Q = false) (h2 : ∀ j, j < Q → meetsX L x j = true) :
    Calls Try.prog 18 #[.slice A L.length c, .agg #[.int .i64 (x.a : Int), .int .i64 (x.n : Int)]] w fun r w' => r = .returned (.int .i64 Q) ∧ Below w.heap.size w w' := by
  have HO := Lib.hid ho
  have HBN := Lib.hid hb
  have H1 := Lib.hid h1
  have H2 := Lib.hid h2
  have hxI : (x.a : Int) + x.n ≤ 64 := by omega
  clear ho hb h1 h2
  go_enter Try.func18, Try.ntmps18
  go_wp2
  go_loopw [5] (fun i wr => ∃ q : Nat, q ≤ Q ∧ i = .int .i64 q ∧ Below (w.heap.size + 1) (w.alloc (.cells #[.int .i64 (x.a : Int), .int .i64 (x.n : Int)] 39)) wr) (fun i _ => 64 - (intOf i).toNat)
  case atStart => exact ⟨0, Nat.zero_le _, rfl, Below.refl _ _⟩
  case round =>
    obtain ⟨q, hq, rfl, hB⟩ := hrel
    have hqI : (q : Int) ≤ 64 := by omega
    have HB := Lib.hid hB
    clear hB
    obtain ⟨wo, rfl⟩ : ∃ wo : World, wo = wr := ⟨_, rfl⟩
    go_wp2
    go_loopw [6, 13] (fun m i wt => ∃ t : Nat, t ≤ L.length ∧ i = .int .i64 t ∧ m = .bool (meetsX (L.take t) x q) ∧ Below (w.heap.size + 1) (w.alloc (.cells #[.int .i64 (x.a : Int), .int .i64 (x.n : Int)] 39)) wt) (fun _ i _ => L.length - (intOf i).toNat)
    case atStart => exact ⟨0, Nat.zero_le _, rfl, by simp [meetsX], HB.out⟩
    case round =>
      obtain ⟨t, ht, rfl, rfl, hbt⟩ := hrel
      by_cases htl : t < L.length
      · obtain ⟨r, hr⟩ : ∃ r, L[t]? = some r := ⟨L[t], by simp [htl]⟩
        have hbw : Below w.heap.size w wr := ((Below.refl _ w).alloc (Nat.le_refl _) _).trans (hbt.mono (Nat.le_succ _))
        have hot : OwnR _ _ _ L := HO.out.mod (S := fun _ => False) (Mod.of_below hbw (Nat.le_refl _)) (fun _ _ h => h)
        obtain ⟨g, rfl, _, _, c0, c1, _⟩ := hot.at hr
        have hti : (t : Int) < L.length := by omega
        have hrn := HBN.out r (List.mem_of_getElem? hr)
        have hrnI : (r.a : Int) + r.n ≤ 64 := by omega
        have hx0 : wr.cell? ⟨w.heap.size, 0, none⟩ = some (.int .i64 (x.a : Int)) := (hbt.cell (p := ⟨w.heap.size, 0, none⟩) (by simp)).trans (by simp)
        have hx1 : wr.cell? ⟨w.heap.size, 1, none⟩ = some (.int .i64 (x.n : Int)) := (hbt.cell (p := ⟨w.heap.size, 1, none⟩) (by simp)).trans (by simp)
        have hsz : w.heap.size < wr.heap.size := by have := hbt.size; simp at this; omega
        have HS := Lib.hid (meetsX_snoc (x := x) (q := q) hr)
        have HBT := Lib.hid hbt
        obtain ⟨fl, hfl⟩ : ∃ fl, meetsX (L.take t) x q = fl := ⟨_, rfl⟩
        rw [hfl] at HS ⊢
        clear hot hr hbt hfl hbw
        cases fl
        · by_cases hne : r = x
          · subst hne
            go_wp2
            go_roundw
            case rel => exact ⟨t + 1, by omega, by go_num, by rw [HS.out]; simp, HBT.out.alloc (by omega) _⟩
            case measure => simp [intOf]; omega
          · by_cases ha : r.a = x.a
            · have hn : r.n ≠ x.n := fun h => hne (by cases r; cases x; simp_all)
              have haI : ((r.a : Int) == (x.a : Int)) = true := by simp [ha]
              have hnI : ((r.n : Int) == (x.n : Int)) = false := by simp; omega
              have HA := Lib.hid ha
              have HN := Lib.hid hn
              clear ha hn
              by_cases g1 : q < r.a + r.n
              · have g1I : (q : Int) < r.a + r.n := by omega
                by_cases g2 : r.a < q + x.n
                · have g2I : (r.a : Int) < q + x.n := by omega
                  go_wp2
                  go_roundw
                  case rel => exact ⟨t + 1, by omega, by go_num, by rw [HS.out]; simp [meetR, g1, g2, hne], HBT.out.alloc (by omega) _⟩
                  case measure => simp [intOf]; omega
                · have g2I : (q : Int) + x.n ≤ r.a := by omega
                  go_wp2
                  go_roundw
                  case rel => exact ⟨t + 1, by omega, by go_num, by rw [HS.out]; first | (simp [meetR, g1, g2, hne]; done) | (simp [meetR, g2]; omega), HBT.out.alloc (by omega) _⟩
                  case measure => simp [intOf]; omega
              · have g1I : (r.a : Int) + r.n ≤ q := by omega
                go_wp2
                go_roundw
                case rel => exact ⟨t + 1, by omega, by go_num, by rw [HS.out]; simp [meetR, g1], HBT.out.alloc (by omega) _⟩
                case measure => simp [intOf]; omega
            · have haI : ((r.a : Int) == (x.a : Int)) = false := by simp; omega
              have HA := Lib.hid ha
              clear ha
              by_cases g1 : q < r.a + r.n
              · have g1I : (q : Int) < r.a + r.n := by omega
                by_cases g2 : r.a < q + x.n
                · have g2I : (r.a : Int) < q + x.n := by omega
                  go_wp2
                  go_roundw
                  case rel => exact ⟨t + 1, by omega, by go_num, by rw [HS.out]; simp [meetR, g1, g2, hne], HBT.out.alloc (by omega) _⟩
                  case measure => simp [intOf]; omega
                · have g2I : (q : Int) + x.n ≤ r.a := by omega
                  go_wp2
                  go_roundw
                  case rel => exact ⟨t + 1, by omega, by go_num, by rw [HS.out]; first | (simp [meetR, g1, g2, hne]; done) | (simp [meetR, g2]; omega), HBT.out.alloc (by omega) _⟩
                  case measure => simp [intOf]; omega
              · have g1I : (r.a : Int) + r.n ≤ q := by omega
                go_wp2
                go_roundw
                case rel => exact ⟨t + 1, by omega, by go_num, by rw [HS.out]; simp [meetR, g1], HBT.out.alloc (by omega) _⟩
                case measure => simp [intOf]; omega
        · go_wp2
          go_roundw
          case rel => exact ⟨t + 1, by omega, by go_num, by rw [HS.out]; simp, HBT.out.alloc (by omega) _⟩
          case measure => simp [intOf]; omega
      · obtain rfl : t = L.length := by omega
        have hti : decide ((L.length : Int) < L.length) = false := by simp
        rw [List.take_length]
        have HBT := Lib.hid hbt
        clear hbt
        by_cases hqQ : q = Q
        · subst hqQ
          rw [H1.out]
          go_wp2
          go_ret
          exact ⟨rfl, ((Below.refl _ w).alloc (Nat.le_refl _) _).trans (HBT.out.mono (Nat.le_succ _))⟩
        · rw [H2.out q (by omega)]
          go_wp2
          go_roundw
          case rel => exact ⟨q + 1, by omega, by go_num, HBT.out⟩
          case measure => simp [intOf]; omega
end Go.Proofs.Ytjcnaefgffnphaa
