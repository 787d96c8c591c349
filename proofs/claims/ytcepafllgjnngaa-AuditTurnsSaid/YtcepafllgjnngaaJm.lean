/-
  The walks of audit.Sum and of the law's part and awake, and Whole as one contract; conditions: the parts read as told, at most 100.
-/
import Derived.Test.YtcepafllgjnngaaJl
import Derived.Deep.RegionHeld3
import Derived.Laws.Rows
namespace Go.Proofs.Ytcepafllgjnngaa
open Go.RowKit Go.Proofs.YtcepafllgjnngaaW.PrintWords
open So

/-- what a part adds to its kind's sum -/
def sumF (k : Int) (x : Q) : Int := if x.1 = k ∧ ofB x.2.2.2 = false then x.2.2.2 else 0
theorem sumF_in (k : Int) (x : Q) : 0 ≤ sumF k x ∧ sumF k x ≤ 1099511627776 := by
  unfold sumF
  split
  · rename_i h; exact of_not_of h.2
  · omega
/-- the sum of a kind -/
def sumL (k : Int) (l : List Q) : Int := sumTo (fun p => sumF k (l.getD p dQ)) l.length
set_option maxRecDepth 100000 in
set_option maxHeartbeats 8000000 in
theorem asum_any (A : Option Addr) (c : Nat) (l : List Q) (kd : Int) (w : World) (hr : kPt.C w A l.length l) (hl : l.length ≤ 100) :
    Calls Try.prog 13 #[.int .u8 kd, .slice A l.length c] w fun e w' => e = .returned (.int .i64 (sumL kd l)) ∧ Below w.heap.size w w' := by
  have HR := Lk.mk hr
  have HL := Lk.mk hl
  clear hr hl
  go_enter Try.func13, Try.ntmps13
  go_wp2
  go_loopg [5, 7, 10] l.length (fun gg v5 _ v10 wr => ∃ (k : Nat) (s : Int), k ≤ l.length ∧ l.length - k ≤ gg ∧ v5 = .int .i64 s ∧ v10 = .int .i64 k ∧ Lk (s = sumTo (fun p => sumF kd (l.getD p dQ)) k) ∧ Lk (Below w.heap.size w wr))
  case atStart => exact ⟨0, 0, Nat.zero_le _, by omega, rfl, rfl, ⟨rfl⟩, ⟨Below.refl _ _⟩⟩
  case round =>
    obtain ⟨k, s, hkN, hgg, rfl, rfl, HS, HB⟩ := hrel
    have hs0 : 0 ≤ s ∧ s ≤ 109951162777600 := by
      have h1 := HS.out
      have h2 := HL.out
      have hsb := sum_bound (f := fun p => sumF kd (l.getD p dQ)) (M := 1099511627776) (N := k) (fun p hp => sumF_in _ _)
      rw [h1]
      constructor
      · exact hsb.1
      · have : (k : Int) * 1099511627776 ≤ 100 * 1099511627776 := by omega
        omega
    by_cases hlt : k < l.length
    · have hltz : (k : Int) < (l.length : Int) := by omega
      have hn100 : (l.length : Int) ≤ 100 := by have := HL.out; omega
      obtain ⟨ad, rfl, p0, p1, p2, p3⟩ := kPt_at (Kd.C_below HR.out HB.out) k hlt
      have HS2 := Lk.mk (show sumTo (fun p => sumF kd (l.getD p dQ)) (k + 1) = s + sumF kd (l.getD k dQ) by simp only [sumTo]; rw [HS.out])
      generalize l.getD k dQ = X at *
      obtain ⟨X0, X1, X2, X3⟩ := X
      dsimp only at p0 p1 p2 p3
      have hx0 := below_alloc (Below.refl wr.heap.size wr) (.cells #[.int .u8 X0, .int .i64 X1, .int .i64 X2, .int .i64 X3] 34)
      have hc := plain1 X3 (wr.alloc (.cells #[.int .u8 X0, .int .i64 X1, .int .i64 X2, .int .i64 X3] 34))
      rw [show (wr.alloc (.cells #[.int .u8 X0, .int .i64 X1, .int .i64 X2, .int .i64 X3] 34)).heap.size = wr.heap.size + 1 from by simp] at hc
      have HB0 := Lk.mk (below_then HB.out HB.out.size hx0)
      have HE0 := Lk.mk (blk_new wr (.cells #[.int .u8 X0, .int .i64 X1, .int .i64 X2, .int .i64 X3] 34))
      have HB1 := Lk.mk (fun W (hb : Below (wr.heap.size + 1) (wr.alloc (.cells #[.int .u8 X0, .int .i64 X1, .int .i64 X2, .int .i64 X3] 34)) W) => below_then HB.out HB.out.size (below_then hx0 hx0.size (by simpa using hb)))
      have HE1 := Lk.mk (fun W (hb : Below (wr.heap.size + 1) (wr.alloc (.cells #[.int .u8 X0, .int .i64 X1, .int .i64 X2, .int .i64 X3] 34)) W) => cells4z (blk_below HE0.out (show Below (wr.alloc (.cells #[.int .u8 X0, .int .i64 X1, .int .i64 X2, .int .i64 X3] 34)).heap.size _ W by simpa using hb)))
      clear hx0
      by_cases hk : X0 = kd
      · subst X0
        cases ho : ofB X3 with
        | true =>
          rw [ho] at hc
          have HC := Lk.mk hc
          have HF := Lk.mk (show sumF kd (kd, X1, X2, X3) = 0 by unfold sumF; rw [if_neg]; rintro ⟨_, h⟩; rw [ho] at h; cases h)
          clear hc ho hs0
          go_wp2_with (go_at_call 21; (with_reducible refine (HC.out).mono ?_); rintro e w1 ⟨rfl, hb⟩; have HB2 := Lk.mk (HB1.out _ hb); clear hb)
          go_roundg (l.length - (k + 1))
          case measure => omega
          case rel => exact ⟨k + 1, s, hlt, by omega, rfl, by go_num, ⟨by rw [HS2.out, HF.out]; omega⟩, HB2⟩
        | false =>
          rw [ho] at hc
          have HC := Lk.mk hc
          have hx3 := of_not_of ho
          obtain ⟨s2, hs2⟩ : ∃ s2, s2 = s + X3 := ⟨_, rfl⟩
          have HF := Lk.mk (show sumTo (fun p => sumF kd (l.getD p dQ)) (k + 1) = s2 by rw [HS2.out, hs2]; unfold sumF; rw [if_pos ⟨rfl, ho⟩])
          have HWS := Lk.mk (show IntKind.i64.wrap (s + X3) = s2 from (IntWalk.i64_in _ (by omega)).trans hs2.symm)
          clear hc ho hs0 hs2 hx3
          have hws := HWS.out
          go_wp2_with (go_at_call 21; (with_reducible refine (HC.out).mono ?_); rintro e w1 ⟨rfl, hb⟩; have HB2 := Lk.mk (HB1.out _ hb); obtain ⟨⟨d0, d1, d2, d3⟩, _, _, _, _⟩ := HE1.out _ hb; clear hb)
          clear hws
          go_roundg (l.length - (k + 1))
          case measure => omega
          case rel => exact ⟨k + 1, s2, hlt, by omega, rfl, by go_num, ⟨HF.out.symm⟩, HB2⟩
      · have hkb : (X0 == kd) = false := beq_false_of_ne hk
        have HF := Lk.mk (show sumF kd (X0, X1, X2, X3) = 0 by unfold sumF; rw [if_neg]; rintro ⟨h, _⟩; exact hk h)
        clear hc hs0 hk
        go_wp2
        go_roundg (l.length - (k + 1))
        case measure => omega
        case rel => exact ⟨k + 1, s, hlt, by omega, rfl, by go_num, ⟨by rw [HS2.out, HF.out]; omega⟩, HB0⟩
    · have hltz : ¬ (k : Int) < (l.length : Int) := by omega
      obtain rfl : k = l.length := by omega
      have HS2 := Lk.mk (show s = sumL kd l from HS.out)
      clear hs0
      go_wp2
      go_ret
      exact ⟨by rw [← HS2.out]; rfl, HB.out⟩
/-- what Whole finds -/
theorem whole_any (A : Option Addr) (c : Nat) (l : List Q) (words : Int) (w : World) (hr : kPt.C w A l.length l) (hl : l.length ≤ 100) :
    Calls Try.prog 12 #[.int .i64 words, .slice A l.length c] w fun e w' => ∃ k a, e = .returned (.agg #[.int .u8 k, .int .i64 a, .int .i64 0, .int .i64 0]) ∧ WR words l (okW words l) k a ∧ Below w.heap.size w w' := by
  cases hok : okW words l with
  | false =>
    refine (whole_bad A c l words w hr hok).mono fun e w' ⟨he, hb⟩ => ⟨1, 0, he, ?_, hb⟩
    exact ⟨fun _ => dQ, fun h => (by cases h), .inl ⟨rfl, rfl, rfl⟩⟩
  | true =>
    cases l with
    | nil =>
      refine (whole_nil A c words w hr hok).mono fun e w' ⟨he, hb⟩ => ⟨_, 0, he, nil_wr words, hb⟩
    | cons x xs => exact whole_ok A c (x :: xs) words w hr hl hok (by simp)
theorem WR.zero {words : Int} {l : List Q} {ok : Bool} (h : WR words l ok 0 0) : ok = true ∧ sumTo (fun p => lenQ (l.getD p dQ)) l.length = words := by
  obtain ⟨r, h1, h2⟩ := h
  obtain ⟨h3, h4, _⟩ := h2.none
  refine ⟨h3, ?_⟩
  have := (h1 h3).1 lenQ
  unfold nx at h4
  rw [← h4, this]
set_option maxRecDepth 100000 in
set_option maxHeartbeats 2000000 in
theorem part_any (a n : Int) (w : World) : Calls Try.prog 20 #[.int .i64 a, .int .i64 n] w fun e w' => e = .returned (.agg #[.int .u8 1, .int .i64 0, .int .i64 a, .int .i64 n]) ∧ Below w.heap.size w w' := by
  have HB := Lk.mk (below_alloc (Below.refl w.heap.size w) (.cells #[.int .u8 1, .int .i64 0, .int .i64 a, .int .i64 n] 34))
  have HE := Lk.mk (blk_new w (.cells #[.int .u8 1, .int .i64 0, .int .i64 a, .int .i64 n] 34))
  go_enter Try.func20, Try.ntmps20
  go_wp2
  exact bodyPost_ret (results_cell_row Try.results20 _ _ w.heap.size 34 #[.int .u8 1, .int .i64 0, .int .i64 a, .int .i64 n] (0, 0) _ rfl HE.out Try.underlying34 rfl (by kernel_rfl)) rfl ⟨rfl, HB.out⟩
/-- the example's part -/
def eQ : Q := (1, (0, (0, 64)))
theorem one_wr {words k a : Int} {ok : Bool} (h : WR words [eQ] ok k a) (hok : ok = true) (hw : words = 64 ∨ words = 256) : (words = 64 ∧ k = 0 ∧ a = 0) ∨ (words = 256 ∧ k = 1 ∧ a = 64) := by
  obtain ⟨r, h1, h2⟩ := h
  have h3 := (h1 hok).1
  have h0 : r 0 = eQ := by
    obtain ⟨k, hk, e⟩ := h3.mem 0 (by simp)
    have : k = 0 := by simp at hk; exact hk
    subst this
    exact e
  have n0 : nx r 0 = 0 := rfl
  have n1 : nx r 1 = 64 := by unfold nx; simp only [sumTo]; rw [h0]; rfl
  have hg : good words r 0 := by
    unfold good
    rw [h0, n0]
    rcases hw with rfl | rfl <;> (unfold key lenQ eQ; decide)
  rcases h2 with ⟨h4, _⟩ | ⟨_, i, hi, hgi, hr⟩
  · rw [hok] at h4; cases h4
  · have hi1 : i ≤ 1 := hi
    rcases hr with ⟨l1, hb, _⟩ | ⟨e, hb, rfl, rfl⟩ | ⟨e, hb, rfl, rfl⟩
    · have l1' : i < 1 := l1
      have : i = 0 := by omega
      subst this
      exact absurd hg hb
    · have hb' : nx r 1 ≠ words := hb
      rw [n1] at hb'
      right
      refine ⟨by omega, rfl, n1⟩
    · have hb' : nx r 1 = words := hb
      rw [n1] at hb'
      left
      exact ⟨hb'.symm, rfl, rfl⟩
end Go.Proofs.Ytcepafllgjnngaa
