/-
  The walk of audit.Whole where the parts' numbers may be; conditions: the parts read as told, at most 100.
-/
import Derived.Test.YtcepafllgjnngaaJk
import Derived.Deep.RegionHeld3
import Derived.Laws.Rows
namespace Go.Proofs.Ytcepafllgjnngaa
open Go.RowKit Go.Proofs.YtcepafllgjnngaaW.PrintWords
open So

theorem of_not_of {n : Int} (h : ofB n = false) : 0 ≤ n ∧ n ≤ 1099511627776 := by
  unfold ofB at h
  simp at h
  omega
theorem of_not_bad {l : List Q} (h : l.any badQ = false) : ∀ x ∈ l, (0 ≤ key x ∧ key x ≤ 1099511627776) ∧ 0 ≤ lenQ x ∧ lenQ x ≤ 1099511627776 := by
  intro x hx
  have := List.any_eq_false.1 h x hx
  unfold badQ at this
  simp only [Bool.or_eq_true, not_or, Bool.not_eq_true] at this
  exact ⟨of_not_of this.1, of_not_of this.2⟩
theorem nil_wr (words : Int) : WR words [] true (if words = 0 then 0 else 1) 0 := by
  refine ⟨fun _ => dQ, fun _ => ⟨fun f => rfl, fun x y _ _ h => by simp at h⟩, .inr ⟨rfl, 0, Nat.le_refl _, fun j hj => by omega, ?_⟩⟩
  by_cases h : words = 0
  · rw [if_pos h]; exact .inr (.inr ⟨rfl, by simp [nx, sumTo, h], rfl, rfl⟩)
  · rw [if_neg h]; exact .inr (.inl ⟨rfl, by simp [nx, sumTo]; omega, rfl, by simp [nx, sumTo]⟩)
set_option maxRecDepth 100000 in
set_option maxHeartbeats 8000000 in
theorem whole_nil (A : Option Addr) (c : Nat) (words : Int) (w : World) (hr : kPt.C w A 0 []) (hok : okW words [] = true) :
    Calls Try.prog 12 #[.int .i64 words, .slice A 0 c] w fun e w' => e = .returned (.agg #[.int .u8 (if words = 0 then 0 else 1), .int .i64 0, .int .i64 0, .int .i64 0]) ∧ Below w.heap.size w w' := by
  obtain ⟨l, hl⟩ : ∃ l : List Q, l = [] := ⟨_, rfl⟩
  obtain ⟨z, hz⟩ : ∃ z : Int, z = if words = 0 then 0 else 1 := ⟨_, rfl⟩
  rw [← hz]
  have HZ := Lk.mk hz
  clear hz
  have hr : kPt.C w A l.length l := by rw [hl]; exact hr
  rw [← hl] at hok
  have hx0 := below_alloc (Below.refl w.heap.size w) (.cells #[.int .u8 0, .int .i64 0, .int .i64 0, .int .i64 0] 36)
  have HE0 := Lk.mk (blk_new w (.cells #[.int .u8 0, .int .i64 0, .int .i64 0, .int .i64 0] 36))
  have hc := plain1 words (w.alloc (.cells #[.int .u8 0, .int .i64 0, .int .i64 0, .int .i64 0] 36))
  rw [show (w.alloc (.cells #[.int .u8 0, .int .i64 0, .int .i64 0, .int .i64 0] 36)).heap.size = w.heap.size + 1 from by simp] at hc
  have hok' : ofB words = false ∧ l.any badQ = false := by
    unfold okW at hok
    simpa using hok
  rw [hok'.1] at hc
  have HC := Lk.mk hc
  have HCP := Lk.mk (fun W (hb : Below w.heap.size w W) => contains_parts A c l badQ 23 #[] W (enters_of Try.func23 (by kernel_rfl) rfl) (Kd.C_below hr hb) (fun W f _ _ => wholeLit_any f W))
  rw [hok'.2] at HCP
  have HB1 := Lk.mk (fun W (hb : Below (w.heap.size + 1) (w.alloc (.cells #[.int .u8 0, .int .i64 0, .int .i64 0, .int .i64 0] 36)) W) => below_then hx0 hx0.size (by simpa using hb))
  have HE1 := Lk.mk (fun W (hb : Below (w.heap.size + 1) (w.alloc (.cells #[.int .u8 0, .int .i64 0, .int .i64 0, .int .i64 0] 36)) W) => blk_below HE0.out (show Below (w.alloc (.cells #[.int .u8 0, .int .i64 0, .int .i64 0, .int .i64 0] 36)).heap.size _ W by simpa using hb))
  have HCL := Lk.mk (fun W (hb : Below w.heap.size w W) => cloneP A c l W (Kd.C_below hr hb) (by rw [hl]; decide))
  have HAT := Lk.mk at_any
  have hbd := of_not_bad hok'.2
  have hwd := of_not_of hok'.1
  have HL0 := Lk.mk (show l.length = 0 by rw [hl]; rfl)
  rw [HL0.out] at HCP HCL
  have HS0 := Lk.mk sort0_any
  clear hc hx0 hr hok hok' hbd
  clear hl
  go_enter Try.func12, Try.ntmps12
  go_wp2_with (first
  | (go_at_call 21; (with_reducible refine (HC.out).mono ?_); rintro e w1 ⟨rfl, hb⟩; have HE := Lk.mk (HE1.out _ hb); have HB := Lk.mk (HB1.out _ hb); clear hb)
  | (go_at_call 22; (with_reducible refine (HCP.out _ HB.out).mono ?_); rintro e w3 ⟨rfl, hb⟩; have HE := Lk.mk (blk_below HE.out hb); have HB := Lk.mk (below_then HB.out HB.out.size hb); clear hb)
  | (go_at_call 25; (with_reducible refine (HCL.out _ HB.out).mono ?_); rintro e w4 ⟨v4, rfl, hR, hb⟩; obtain ⟨A4, c4, rfl, _, _⟩ := Kd.R_reads hR; rw [HL0.out]; have HE := Lk.mk (blk_below HE.out hb); have HB := Lk.mk (below_then HB.out HB.out.size hb); clear hb hR)
  | (go_at_call 26; (with_reducible refine (HS0.out _ _ _).mono ?_); rintro e w' ⟨rfl, hw⟩; subst w'))
  go_loopg [5, 7, 23] 0 (fun gg v5 _ v23 wr => v5 = .int .i64 0 ∧ v23 = .int .i64 0 ∧ Lk (wr.heap[w.heap.size]? = some (.cells #[.int .u8 0, .int .i64 0, .int .i64 0, .int .i64 0] 36 (0, 0))) ∧ Lk (Below w.heap.size w wr))
  case atStart => exact ⟨rfl, rfl, HE, HB⟩
  case round =>
    clear HE HB
    obtain ⟨rfl, rfl, HE, HB⟩ := hrel
    by_cases h0 : words = 0
    · have hz0 : z = 0 := by rw [HZ.out, if_pos h0]
      clear HZ
      subst hz0
      subst h0
      obtain ⟨⟨c0, c1, c2, c3⟩, z0, z1, z2, z3⟩ := cells4z HE.out
      clear hwd
      go_wp2
      exact bodyPost_ret (results_cell_row Try.results12 _ _ w.heap.size 36 #[.int .u8 0, .int .i64 0, .int .i64 0, .int .i64 0] (0, 0) _ rfl (put4z HE.out _ _ _ _) Try.underlying36 rfl (by kernel_rfl)) rfl ⟨rfl, below4z HB.out _ _ _ _⟩
    · have h0b : ((0 : Int) != words) = true := by rw [bne_iff_ne]; omega
      have hz0 : z = 1 := by rw [HZ.out, if_neg h0]
      clear HZ
      subst hz0
      clear hwd
      go_wp2_with (go_at_call 24; (with_reducible refine (HAT.out _ _ _).mono ?_); rintro e w8 ⟨rfl, hb⟩; have HF := Lk.mk (blk_below HE.out hb); have HB2 := Lk.mk (below_then HB.out HB.out.size hb); obtain ⟨⟨c0, c1, c2, c3⟩, z0, z1, z2, z3⟩ := cells4z HF.out; clear hb)
      exact bodyPost_ret (results_cell_row Try.results12 _ _ w.heap.size 36 #[.int .u8 1, .int .i64 0, .int .i64 0, .int .i64 0] (0, 0) _ rfl (put4z HF.out _ _ _ _) Try.underlying36 rfl (by kernel_rfl)) rfl ⟨rfl, below4z HB2.out _ _ _ _⟩
set_option maxRecDepth 100000 in
set_option maxHeartbeats 8000000 in
theorem whole_ok (A : Option Addr) (c : Nat) (l : List Q) (words : Int) (w : World) (hr : kPt.C w A l.length l) (hl : l.length ≤ 100) (hok : okW words l = true) (hp : 0 < l.length) :
    Calls Try.prog 12 #[.int .i64 words, .slice A l.length c] w fun e w' => ∃ k a, e = .returned (.agg #[.int .u8 k, .int .i64 a, .int .i64 0, .int .i64 0]) ∧ WR words l true k a ∧ Below w.heap.size w w' := by
  have hx0 := below_alloc (Below.refl w.heap.size w) (.cells #[.int .u8 0, .int .i64 0, .int .i64 0, .int .i64 0] 36)
  have HE0 := Lk.mk (blk_new w (.cells #[.int .u8 0, .int .i64 0, .int .i64 0, .int .i64 0] 36))
  have hc := plain1 words (w.alloc (.cells #[.int .u8 0, .int .i64 0, .int .i64 0, .int .i64 0] 36))
  rw [show (w.alloc (.cells #[.int .u8 0, .int .i64 0, .int .i64 0, .int .i64 0] 36)).heap.size = w.heap.size + 1 from by simp] at hc
  have hok' : ofB words = false ∧ l.any badQ = false := by
    unfold okW at hok
    simpa using hok
  rw [hok'.1] at hc
  have HC := Lk.mk hc
  have HCP := Lk.mk (fun W (hb : Below w.heap.size w W) => contains_parts A c l badQ 23 #[] W (enters_of Try.func23 (by kernel_rfl) rfl) (Kd.C_below hr hb) (fun W f _ _ => wholeLit_any f W))
  rw [hok'.2] at HCP
  have HB1 := Lk.mk (fun W (hb : Below (w.heap.size + 1) (w.alloc (.cells #[.int .u8 0, .int .i64 0, .int .i64 0, .int .i64 0] 36)) W) => below_then hx0 hx0.size (by simpa using hb))
  have HE1 := Lk.mk (fun W (hb : Below (w.heap.size + 1) (w.alloc (.cells #[.int .u8 0, .int .i64 0, .int .i64 0, .int .i64 0] 36)) W) => blk_below HE0.out (show Below (w.alloc (.cells #[.int .u8 0, .int .i64 0, .int .i64 0, .int .i64 0] 36)).heap.size _ W by simpa using hb))
  have HCL := Lk.mk (fun W (hb : Below w.heap.size w W) => cloneP A c l W (Kd.C_below hr hb) (by omega))
  have HAT := Lk.mk at_any
  have hbd := of_not_bad hok'.2
  have hwd := of_not_of hok'.1
  have HLB := Lk.mk (show ∀ k, k < l.length → (0 ≤ key (l.getD k dQ) ∧ key (l.getD k dQ) ≤ 1099511627776) ∧ 0 ≤ lenQ (l.getD k dQ) ∧ lenQ (l.getD k dQ) ≤ 1099511627776 from fun k hk => hbd _ (getD_mem dQ hk))
  have HLP := Lk.mk (show 0 < l.length ∧ l.length ≤ 100 from ⟨hp, hl⟩)
  have HSO := Lk.mk (fun g c W (h : Par W g l.length (fun k => l.getD k dQ)) => sort_any g l.length c _ W h (by omega))
  have HWRR := Lk.mk (show ∀ r k a, Eqv l.length (fun p => l.getD p dQ) r → Srt r 0 l.length → WholeR words l.length true r k a → WR words l true k a from fun r k a h1 h2 h3 => ⟨r, fun _ => ⟨h1, h2⟩, h3⟩)
  clear hc hx0 hr hok hok' hbd hp hl
  generalize WR words l true = Z at *
  go_enter Try.func12, Try.ntmps12
  go_wp2_with (first
  | (go_at_call 21; (with_reducible refine (HC.out).mono ?_); rintro e w1 ⟨rfl, hb⟩; have HE := Lk.mk (HE1.out _ hb); have HB := Lk.mk (HB1.out _ hb); clear hb)
  | (go_at_call 22; (with_reducible refine (HCP.out _ HB.out).mono ?_); rintro e w3 ⟨rfl, hb⟩; have HE := Lk.mk (blk_below HE.out hb); have HB := Lk.mk (below_then HB.out HB.out.size hb); clear hb)
  | (go_at_call 25; (with_reducible refine (HCL.out _ HB.out).mono ?_); rintro e w4 ⟨v4, rfl, hR, hb⟩; obtain ⟨g, c4, rfl, hg1, hg2, _⟩ := Kd.R_form hR HLP.out.1; have HPA := Lk.mk (Par.of hR HLP.out.1); have HG := Lk.mk (show w.heap.size < g from Nat.lt_of_lt_of_le (blk_lt HE.out) hg1); have HE := Lk.mk (blk_below HE.out hb); have HB := Lk.mk (below_then HB.out HB.out.size hb); clear hb hR hg1 hg2)
  | (go_at_call 26; (with_reducible refine (HSO.out _ _ _ HPA.out).mono ?_); rintro e w5 ⟨rfl, hk, r, hpr, hsw, hsr⟩; have HE := Lk.mk (show w5.heap[w.heap.size]? = some (.cells #[.int .u8 0, .int .i64 0, .int .i64 0, .int .i64 0] 36 (0, 0)) from (hk.block _ (blk_lt HE.out) (Nat.ne_of_lt HG.out)).trans HE.out); have HB := Lk.mk (hk.below HB.out (Nat.le_of_lt HG.out) HB.out.size); have HPR := Lk.mk hpr; have HSW := Lk.mk hsw; have HSR := Lk.mk hsr; clear hk hpr hsw hsr))
  have HWZ := Lk.mk (fun k a h => HWRR.out r k a (fun f => HSW.out.sum (Nat.le_refl _) f) HSR.out h)
  have HRB := Lk.mk (show ∀ k, k < l.length → (0 ≤ key (r k) ∧ key (r k) ≤ 1099511627776) ∧ 0 ≤ lenQ (r k) ∧ lenQ (r k) ≤ 1099511627776 from fun k hk => by
    obtain ⟨k', _, h2, h3⟩ := HSW.out.img k (Nat.zero_le _) hk
    rw [h3]
    exact HLB.out k' h2)
  have HL1 := Lk.mk HLP.out.2
  clear HWRR HSW HSR HLB HLP HPA HSO HCL HCP HC HB1 HE1 HE0
  generalize l.length = N at *
  go_loopg [5, 7, 23] N (fun gg v5 _ v23 wr => ∃ (k : Nat) (s : Int), k ≤ N ∧ N - k ≤ gg ∧ v5 = .int .i64 s ∧ v23 = .int .i64 k ∧ Lk (s = nx r k) ∧ Lk (∀ j, j < k → good words r j) ∧ Lk (Par wr g N r) ∧ Lk (wr.heap[w.heap.size]? = some (.cells #[.int .u8 0, .int .i64 0, .int .i64 0, .int .i64 0] 36 (0, 0))) ∧ Lk (Below w.heap.size w wr))
  case atStart => exact ⟨0, 0, Nat.zero_le _, by omega, rfl, rfl, ⟨rfl⟩, ⟨fun j hj => by omega⟩, HPR, HE, HB⟩
  case round =>
    clear HE HB HPR
    obtain ⟨k, s, hkN, hgg, rfl, rfl, HS, HG, HPR, HE, HB⟩ := hrel
    have hsb := sum_bound (f := fun p => lenQ (r p)) (M := 1099511627776) (N := k) (fun p hp => (HRB.out p (by omega)).2)
    have hs0 : 0 ≤ s ∧ s ≤ 109951162777600 := by
      have h1 := HS.out
      have h2 := HL1.out
      unfold nx at h1
      rw [h1]
      constructor
      · exact hsb.1
      · have : (k : Int) * 1099511627776 ≤ 100 * 1099511627776 := by omega
        omega
    clear hsb
    by_cases hlt : k < N
    · have hltz : (k : Int) < (N : Int) := by omega
      have hn100 : (N : Int) ≤ 100 := by have := HL1.out; omega
      have hb := HRB.out k hlt
      obtain ⟨p0, p1, p2, p3⟩ := HPR.out.at_ k hlt
      obtain ⟨d, hd⟩ : ∃ d, d = words - s := ⟨_, rfl⟩
      have HGD := Lk.mk (show good words r k ↔ ((r k).2.2.1 = s ∧ (r k).2.2.2 ≠ 0 ∧ 1 ≤ (r k).1 ∧ (r k).1 ≤ 6 ∧ (r k).2.2.2 ≤ d) by unfold good key lenQ; rw [← HS.out, hd])
      obtain ⟨s2, hs2⟩ : ∃ s2, s2 = s + (r k).2.2.2 := ⟨_, rfl⟩
      have HS2 := Lk.mk (show s2 = nx r (k + 1) by rw [hs2, HS.out]; rfl)
      have HW1 := Lk.mk (show ¬ good words r k → Z 1 s from fun hn => HWZ.out 1 s (.inr ⟨rfl, k, hkN, HG.out, .inl ⟨hlt, hn, rfl, HS.out⟩⟩))
      unfold key lenQ at hb
      generalize hX : r k = X at *
      obtain ⟨X0, X1, X2, X3⟩ := X
      dsimp only at p0 p1 p2 p3 HGD hs2 hb
      have hw1 : IntKind.i64.wrap (words - s) = d := (IntWalk.i64_in _ (by omega)).trans hd.symm
      have HWS := Lk.mk (show IntKind.i64.wrap (s + X3) = s2 from (IntWalk.i64_in _ (by omega)).trans hs2.symm)
      have HP2 := Lk.mk (HPR.out.below (below_alloc (Below.refl _ _) (.cells #[.int .u8 X0, .int .i64 X1, .int .i64 X2, .int .i64 X3] 34)))
      have HKM := Lk.mk (show k + 1 ≤ N ∧ N - k ≤ _ from ⟨hlt, hgg⟩)
      have HE := Lk.mk (blk_alloc HE.out (.cells #[.int .u8 X0, .int .i64 X1, .int .i64 X2, .int .i64 X3] 34))
      have HB := Lk.mk (below_alloc HB.out (.cells #[.int .u8 X0, .int .i64 X1, .int .i64 X2, .int .i64 X3] 34))
      clear hs2 hd hX hlt hgg hkN hwd hb hs0
      by_cases g1 : X2 = s
      · subst X2
        by_cases g2 : X3 = 0
        · subst g2
          have HNG := Lk.mk (show ¬ good words r k from fun hg => by have := HGD.out.1 hg; omega)
          clear HGD
          go_wp2_with (go_at_call 24; (with_reducible refine (HAT.out _ _ _).mono ?_); rintro e w8 ⟨rfl, hb⟩; have HF := Lk.mk (blk_below HE.out hb); have HB2 := Lk.mk (below_then HB.out HB.out.size hb); obtain ⟨⟨c0, c1, c2, c3⟩, z0, z1, z2, z3⟩ := cells4z HF.out; clear hb)
          exact bodyPost_ret (results_cell_row Try.results12 _ _ w.heap.size 36 #[.int .u8 1, .int .i64 s, .int .i64 0, .int .i64 0] (0, 0) _ rfl (put4z HF.out _ _ _ _) Try.underlying36 rfl (by kernel_rfl)) rfl ⟨1, s, rfl, HW1.out HNG.out, below4z HB2.out _ _ _ _⟩
        · have g2b : (X3 == 0) = false := beq_false_of_ne g2
          by_cases g3 : X0 < 1
          · have HNG := Lk.mk (show ¬ good words r k from fun hg => by have := HGD.out.1 hg; omega)
            clear HGD
            go_wp2_with (go_at_call 24; (with_reducible refine (HAT.out _ _ _).mono ?_); rintro e w8 ⟨rfl, hb⟩; have HF := Lk.mk (blk_below HE.out hb); have HB2 := Lk.mk (below_then HB.out HB.out.size hb); obtain ⟨⟨c0, c1, c2, c3⟩, z0, z1, z2, z3⟩ := cells4z HF.out; clear hb)
            exact bodyPost_ret (results_cell_row Try.results12 _ _ w.heap.size 36 #[.int .u8 1, .int .i64 s, .int .i64 0, .int .i64 0] (0, 0) _ rfl (put4z HF.out _ _ _ _) Try.underlying36 rfl (by kernel_rfl)) rfl ⟨1, s, rfl, HW1.out HNG.out, below4z HB2.out _ _ _ _⟩
          · by_cases g4 : 6 < X0
            · have HNG := Lk.mk (show ¬ good words r k from fun hg => by have := HGD.out.1 hg; omega)
              clear HGD
              go_wp2_with (go_at_call 24; (with_reducible refine (HAT.out _ _ _).mono ?_); rintro e w8 ⟨rfl, hb⟩; have HF := Lk.mk (blk_below HE.out hb); have HB2 := Lk.mk (below_then HB.out HB.out.size hb); obtain ⟨⟨c0, c1, c2, c3⟩, z0, z1, z2, z3⟩ := cells4z HF.out; clear hb)
              exact bodyPost_ret (results_cell_row Try.results12 _ _ w.heap.size 36 #[.int .u8 1, .int .i64 s, .int .i64 0, .int .i64 0] (0, 0) _ rfl (put4z HF.out _ _ _ _) Try.underlying36 rfl (by kernel_rfl)) rfl ⟨1, s, rfl, HW1.out HNG.out, below4z HB2.out _ _ _ _⟩
            · by_cases g5 : d < X3
              · have HNG := Lk.mk (show ¬ good words r k from fun hg => by have := HGD.out.1 hg; omega)
                clear HGD
                go_wp2_with (go_at_call 24; (with_reducible refine (HAT.out _ _ _).mono ?_); rintro e w8 ⟨rfl, hb⟩; have HF := Lk.mk (blk_below HE.out hb); have HB2 := Lk.mk (below_then HB.out HB.out.size hb); obtain ⟨⟨c0, c1, c2, c3⟩, z0, z1, z2, z3⟩ := cells4z HF.out; clear hb)
                exact bodyPost_ret (results_cell_row Try.results12 _ _ w.heap.size 36 #[.int .u8 1, .int .i64 s, .int .i64 0, .int .i64 0] (0, 0) _ rfl (put4z HF.out _ _ _ _) Try.underlying36 rfl (by kernel_rfl)) rfl ⟨1, s, rfl, HW1.out HNG.out, below4z HB2.out _ _ _ _⟩
              · have HG2 := Lk.mk (show ∀ j, j < k + 1 → good words r j from fun j hj => by
                  by_cases e : j = k
                  · subst e; exact HGD.out.2 (by omega)
                  · exact HG.out j (by omega))
                clear HGD g2
                have hws := HWS.out
                go_wp2
                clear hws
                go_roundg (N - (k + 1))
                case measure => have := HKM.out; omega
                case rel => exact ⟨k + 1, s2, by have := HKM.out; omega, by omega, rfl, by go_num, HS2, HG2, ⟨HP2.out⟩, HE, HB⟩
      · have g1b : (X2 != s) = true := by rw [bne_iff_ne]; exact g1
        have HNG := Lk.mk (show ¬ good words r k from fun hg => by have := HGD.out.1 hg; omega)
        clear HGD
        go_wp2_with (go_at_call 24; (with_reducible refine (HAT.out _ _ _).mono ?_); rintro e w8 ⟨rfl, hb⟩; have HF := Lk.mk (blk_below HE.out hb); have HB2 := Lk.mk (below_then HB.out HB.out.size hb); obtain ⟨⟨c0, c1, c2, c3⟩, z0, z1, z2, z3⟩ := cells4z HF.out; clear hb)
        exact bodyPost_ret (results_cell_row Try.results12 _ _ w.heap.size 36 #[.int .u8 1, .int .i64 s, .int .i64 0, .int .i64 0] (0, 0) _ rfl (put4z HF.out _ _ _ _) Try.underlying36 rfl (by kernel_rfl)) rfl ⟨1, s, rfl, HW1.out HNG.out, below4z HB2.out _ _ _ _⟩
    · have hltz : ¬ (k : Int) < (N : Int) := by omega
      obtain rfl : k = N := by omega
      by_cases hsw : s = words
      · have HZ := Lk.mk (HWZ.out 0 0 (.inr ⟨rfl, k, Nat.le_refl _, HG.out, .inr (.inr ⟨rfl, HS.out.symm.trans hsw, rfl, rfl⟩)⟩))
        clear HWZ HG hs0 hwd
        subst hsw
        obtain ⟨⟨c0, c1, c2, c3⟩, z0, z1, z2, z3⟩ := cells4z HE.out
        go_wp2
        exact bodyPost_ret (results_cell_row Try.results12 _ _ w.heap.size 36 #[.int .u8 0, .int .i64 0, .int .i64 0, .int .i64 0] (0, 0) _ rfl (put4z HE.out _ _ _ _) Try.underlying36 rfl (by kernel_rfl)) rfl ⟨0, 0, rfl, HZ.out, below4z HB.out _ _ _ _⟩
      · have hne : (s != words) = true := by rw [bne_iff_ne]; exact hsw
        have HZ := Lk.mk (HWZ.out 1 s (.inr ⟨rfl, k, Nat.le_refl _, HG.out, .inr (.inl ⟨rfl, fun e => hsw (HS.out.trans e), rfl, HS.out⟩)⟩))
        clear HWZ HG hs0 hwd hsw
        go_wp2_with (go_at_call 24; (with_reducible refine (HAT.out _ _ _).mono ?_); rintro e w8 ⟨rfl, hb⟩; have HF := Lk.mk (blk_below HE.out hb); have HB2 := Lk.mk (below_then HB.out HB.out.size hb); obtain ⟨⟨c0, c1, c2, c3⟩, z0, z1, z2, z3⟩ := cells4z HF.out; clear hb)
        exact bodyPost_ret (results_cell_row Try.results12 _ _ w.heap.size 36 #[.int .u8 1, .int .i64 s, .int .i64 0, .int .i64 0] (0, 0) _ rfl (put4z HF.out _ _ _ _) Try.underlying36 rfl (by kernel_rfl)) rfl ⟨1, s, rfl, HZ.out, below4z HB2.out _ _ _ _⟩
end Go.Proofs.Ytcepafllgjnngaa
