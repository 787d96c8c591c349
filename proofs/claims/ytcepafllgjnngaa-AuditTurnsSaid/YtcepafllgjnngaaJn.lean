/-
  The walk of the law's awake, and the law AuditSums; conditions: the parts read as told.
-/
import Derived.Test.YtcepafllgjnngaaJm
import Derived.Deep.RegionHeld3
import Derived.Laws.Rows
namespace Go.Proofs.Ytcepafllgjnngaa
open Go.RowKit Go.Proofs.YtcepafllgjnngaaW.PrintWords
open So

theorem kPt_one {w : World} {g : Nat} (h : w.heap[g]? = some (.cells #[.int .u8 1, .int .i64 0, .int .i64 0, .int .i64 64] 34 (0, 0))) : kPt.C w (some ⟨g, 0, none⟩) ([eQ] : List Q).length [eQ] := by
  obtain ⟨⟨h0, h1, h2, h3⟩, _⟩ := cells4z h
  refine ⟨rfl, by simp, fun _ => ⟨⟨g, 0, none⟩, rfl, fun j p hj => ?_⟩⟩
  cases j with
  | zero =>
    obtain rfl : p = eQ := by simpa using hj.symm
    refine ⟨[.int .u8 1, .int .i64 0, .int .i64 0, .int .i64 64], rfl, ⟨[_], [_, _, _], rfl, rfl, [_], [_, _], rfl, rfl, [_], [_], rfl, rfl, rfl⟩, fun i u hu => ?_⟩
    cases i with
    | zero => obtain rfl : u = _ := by simpa using hu.symm
              simpa [Addr.add] using h0
    | succ i => cases i with
      | zero => obtain rfl : u = _ := by simpa using hu.symm
                simpa [Addr.add] using h1
      | succ i => cases i with
        | zero => obtain rfl : u = _ := by simpa using hu.symm
                  simpa [Addr.add] using h2
        | succ i => cases i with
          | zero => obtain rfl : u = _ := by simpa using hu.symm
                    simpa [Addr.add] using h3
          | succ i => simp at hu
  | succ j => simp at hj
theorem ex_ok : okW 256 [eQ] = true ∧ okW 64 [eQ] = true := by decide
/-- the example: what Whole finds of one part -/
theorem wholeE (words : Int) (hw : words = 64 ∨ words = 256) (W : World) : Calls Try.prog 12 #[.int .i64 words, .slice (some ⟨W.heap.size, 0, none⟩) 1 1] (W.alloc (.cells #[.int .u8 1, .int .i64 0, .int .i64 0, .int .i64 64] 34)) fun e w' => e = .returned (.agg #[.int .u8 (if words = 64 then 0 else 1), .int .i64 (if words = 64 then 0 else 64), .int .i64 0, .int .i64 0]) ∧ Below W.heap.size W w' := by
  have h := whole_any (some ⟨W.heap.size, 0, none⟩) 1 [eQ] words (W.alloc (.cells #[.int .u8 1, .int .i64 0, .int .i64 0, .int .i64 64] 34)) (kPt_one (blk_new W _)) (by simp)
  refine h.mono fun e w' ⟨k, a, he, hr, hb⟩ => ?_
  have hok : okW words [eQ] = true := by rcases hw with rfl | rfl; exact ex_ok.2; exact ex_ok.1
  have h2 : Below W.heap.size W w' := below_then (below_alloc (Below.refl _ _) _) (by simp) hb
  rcases one_wr hr hok hw with ⟨rfl, rfl, rfl⟩ | ⟨rfl, rfl, rfl⟩
  · exact ⟨by rw [he]; rfl, h2⟩
  · exact ⟨by rw [he]; rfl, h2⟩
set_option maxRecDepth 100000 in
set_option maxHeartbeats 8000000 in
theorem awake22_any (w : World) : Calls Try.prog 11 #[] w fun e w' => e = .returned (.bool true) ∧ Below w.heap.size w w' := by
  have H256 := Lk.mk (show ∀ W, Calls Try.prog 12 #[.int .i64 256, .slice (some ⟨W.heap.size, 0, none⟩) 1 1] (W.alloc (.cells #[.int .u8 1, .int .i64 0, .int .i64 0, .int .i64 64] 34)) fun e w' => e = .returned (.agg #[.int .u8 1, .int .i64 64, .int .i64 0, .int .i64 0]) ∧ Below W.heap.size W w' from fun W => wholeE 256 (.inr rfl) W)
  have H64 := Lk.mk (show ∀ W, Calls Try.prog 12 #[.int .i64 64, .slice (some ⟨W.heap.size, 0, none⟩) 1 1] (W.alloc (.cells #[.int .u8 1, .int .i64 0, .int .i64 0, .int .i64 64] 34)) fun e w' => e = .returned (.agg #[.int .u8 0, .int .i64 0, .int .i64 0, .int .i64 0]) ∧ Below W.heap.size W w' from fun W => wholeE 64 (.inl rfl) W)
  have HP := Lk.mk (fun W => part_any 0 64 W)
  have HB := Lk.mk (Below.refl w.heap.size w)
  go_enter Try.func11, Try.ntmps11
  go_wp2_with (first
    | (go_at_call 20; (with_reducible refine (HP.out _).mono ?_); rintro e w1 ⟨rfl, hb⟩; have HB := Lk.mk (below_then HB.out HB.out.size hb); clear hb)
    | (go_at_call 12; (with_reducible refine (H256.out _).mono ?_); rintro e w2 ⟨rfl, hb⟩; have HB := Lk.mk (below_then HB.out HB.out.size hb); clear hb)
    | (go_at_call 12; (with_reducible refine (H64.out _).mono ?_); rintro e w2 ⟨rfl, hb⟩; have HB := Lk.mk (below_then HB.out HB.out.size hb); clear hb))
  go_ret
  exact ⟨rfl, HB.out⟩
theorem kinds_sum {l : List Q} {words : Int} (h : okW words l = true) (i : Nat) : sumTo (fun p => kindsF (i + 1 : Nat) (l.getD p dQ)) l.length = sumTo (fun p => kindsF i (l.getD p dQ)) l.length + sumL i l := by
  unfold sumL
  rw [← sum_add]
  apply sum_congr
  intro p hp
  rw [kinds_next]
  congr 1
  unfold kindF sumF lenQ
  have hb : badQ (l.getD p dQ) = false := by
    unfold okW at h
    simp only [Bool.and_eq_true, Bool.not_eq_true'] at h
    have := List.any_eq_false.1 h.2 _ (getD_mem dQ hp)
    simpa using this
  unfold badQ at hb
  simp only [Bool.or_eq_false_iff] at hb
  by_cases e : (l.getD p dQ).1 = i
  · rw [if_pos e, if_pos ⟨e, hb.2⟩]
  · rw [if_neg e, if_neg (fun h => e h.1)]
theorem kinds_zero {l : List Q} (hi : ∀ x ∈ l, 0 ≤ x.1 ∧ x.1 ≤ 255) : sumTo (fun p => kindsF (0 : Nat) (l.getD p dQ)) l.length = 0 :=
  sum_zero fun p hp => by unfold kindsF; rw [if_neg]; have := (hi _ (getD_mem dQ hp)).1; omega
theorem kinds_all {l : List Q} (hi : ∀ x ∈ l, 0 ≤ x.1 ∧ x.1 ≤ 255) : sumTo (fun p => kindsF (256 : Nat) (l.getD p dQ)) l.length = sumTo (fun p => lenQ (l.getD p dQ)) l.length :=
  sum_congr fun p hp => by unfold kindsF; rw [if_pos]; have := (hi _ (getD_mem dQ hp)).2; omega
theorem kinds_bound {l : List Q} {words : Int} (h : okW words l = true) (hl : l.length ≤ 100) (i : Nat) : 0 ≤ sumTo (fun p => kindsF i (l.getD p dQ)) l.length ∧ sumTo (fun p => kindsF i (l.getD p dQ)) l.length ≤ 109951162777600 := by
  have hb : l.any badQ = false := by unfold okW at h; simp only [Bool.and_eq_true, Bool.not_eq_true'] at h; exact h.2
  have := sum_bound (f := fun p => kindsF i (l.getD p dQ)) (M := 1099511627776) (N := l.length) (fun p hp => by
    have h1 := (of_not_bad hb _ (getD_mem dQ hp)).2
    show 0 ≤ kindsF i (l.getD p dQ) ∧ kindsF i (l.getD p dQ) ≤ 1099511627776
    unfold kindsF
    split
    · exact h1
    · omega)
  omega
theorem sumL_bound (k : Int) {l : List Q} (hl : l.length ≤ 100) : 0 ≤ sumL k l ∧ sumL k l ≤ 109951162777600 := by
  have := sum_bound (f := fun p => sumF k (l.getD p dQ)) (M := 1099511627776) (N := l.length) (fun p _ => sumF_in _ _)
  unfold sumL
  omega
set_option maxRecDepth 100000 in
set_option maxHeartbeats 8000000 in
theorem lawOfAuditSums (A : Option Addr) (c : Nat) (l : List Q) (words : Int) (w : World) (hr : kPt.C w A l.length l) (hi : ∀ x ∈ l, 0 ≤ x.1 ∧ x.1 ≤ 255) :
    Calls Try.prog 5 #[.int .i64 words, .slice A l.length c] w fun e w' => e = .returned (.bool true) ∧ Below w.heap.size w w' := by
  have HB := Lk.mk (Below.refl w.heap.size w)
  have HAW := Lk.mk awake22_any
  have hm := hr.2.1
  by_cases h100 : 100 < l.length
  · have hz : (100 : Int) < (l.length : Int) := by omega
    clear hr hi h100
    go_enter Try.func5, Try.ntmps5
    go_wp2_with (go_at_call 11; (with_reducible refine (HAW.out _).mono ?_); rintro e w' ⟨rfl, hb⟩)
    go_ret
    exact ⟨rfl, hb⟩
  · have hz : ¬ (100 : Int) < (l.length : Int) := by omega
    have HW := Lk.mk (whole_any A c l words w hr (by omega))
    have HSM := Lk.mk (fun W kd (hb : Below w.heap.size w W) => asum_any A c l kd W (Kd.C_below hr hb) (by omega))
    have HKS := Lk.mk (show okW words l = true → ∀ i : Nat, _ from fun h => kinds_sum (l := l) (words := words) h)
    have HKB := Lk.mk (show okW words l = true → ∀ i : Nat, _ from fun h i => kinds_bound (l := l) (words := words) h (by omega) i)
    have HSB := Lk.mk (fun k => sumL_bound k (l := l) (by omega))
    have HK0 := Lk.mk (kinds_zero hi)
    have HK9 := Lk.mk (kinds_all hi)
    clear hr hi h100
    go_enter Try.func5, Try.ntmps5
    go_wp2_with (first
      | (go_at_call 12; (with_reducible refine HW.out.mono ?_); rintro e w1 ⟨k, a, rfl, hwr, hb⟩; have HWR := Lk.mk hwr; have HB := Lk.mk hb; clear hwr hb; rcases Classical.em (k = 0) with hk | hk <;> rcases Classical.em (a = 0) with ha | ha)
      | (go_at_call 11; (with_reducible refine (HAW.out _).mono ?_); rintro e w' ⟨rfl, hb⟩; have HB := Lk.mk (below_then HB.out HB.out.size hb)))
    · subst hk
      subst ha
      have hok := WR.zero HWR.out
      have HSUM := Lk.mk hok.2
      have HKS := Lk.mk (HKS.out hok.1)
      have HKB := Lk.mk (HKB.out hok.1)
      clear hok HWR
      go_loopg [5, 6] 256 (fun gg v5 v6 wr => ∃ (i : Nat) (s : Int), i ≤ 256 ∧ 256 - i ≤ gg ∧ v5 = .int .i64 s ∧ v6 = .int .i64 i ∧ Lk (s = sumTo (fun p => kindsF i (l.getD p dQ)) l.length) ∧ Lk (Below w.heap.size w wr))
      case atStart => exact ⟨0, 0, by omega, by omega, rfl, rfl, ⟨HK0.out.symm⟩, HB⟩
      case round =>
        clear HB
        obtain ⟨i, s, hi, hg, rfl, rfl, HS, HB⟩ := hrel
        by_cases hlt : i < 256
        · have hltz : (i : Int) < 256 := by omega
          have h8 : IntKind.u8.wrap (i : Int) = (i : Int) := IntWalk.u8_in _ (by omega)
          have HSC := Lk.mk (HSM.out wr i HB.out)
          obtain ⟨s2, hs2⟩ : ∃ s2, s2 = s + sumL i l := ⟨_, rfl⟩
          have HS2 := Lk.mk (show s2 = sumTo (fun p => kindsF (i + 1 : Nat) (l.getD p dQ)) l.length by rw [HKS.out i, ← HS.out]; exact hs2)
          have hb1 := HKB.out i
          have hb2 := HSB.out i
          rw [← HS.out] at hb1
          have HWS := Lk.mk (show IntKind.i64.wrap (s + sumL i l) = s2 from (IntWalk.i64_in _ (by omega)).trans hs2.symm)
          have HWI := Lk.mk (show IntKind.i64.wrap ((i : Int) + 1) = ((i + 1 : Nat) : Int) from (IntWalk.i64_in _ (by omega)).trans (by omega))
          clear hs2 hb1 hb2
          generalize sumL i l = t at *
          have hws := HWS.out
          go_wp2_with (go_at_call 13; (with_reducible refine (HSC.out).mono ?_); rintro e w' ⟨rfl, hb⟩; have HB := Lk.mk (below_then HB.out HB.out.size hb); clear hb)
          clear hws h8
          go_roundg (256 - (i + 1))
          case measure => omega
          case rel => exact ⟨i + 1, s2, by omega, by omega, rfl, by go_num, HS2, HB⟩
        · have hltz : ¬ (i : Int) < 256 := by omega
          obtain rfl : i = 256 := by omega
          have HE := Lk.mk (show s = words from HS.out.trans (HK9.out.trans HSUM.out))
          obtain rfl := HE.out
          clear HE
          go_wp2_with (go_at_call 11; (with_reducible refine (HAW.out _).mono ?_); rintro e w' ⟨rfl, hb⟩; have HB := Lk.mk (below_then HB.out HB.out.size hb); clear hb)
          go_ret
          exact ⟨rfl, HB.out⟩
    all_goals go_ret
    all_goals exact ⟨rfl, HB.out⟩
end Go.Proofs.Ytcepafllgjnngaa
