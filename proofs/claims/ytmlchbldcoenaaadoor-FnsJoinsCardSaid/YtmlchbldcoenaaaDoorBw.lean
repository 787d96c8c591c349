/-
  The walk of the law FnsIs; conditions: the functions read as told, the table of deBruijn stands.
-/
import Derived.Test.YtmlchbldcoenaaaDoorBq
import Derived.Test.YtmlchbldcoenaaaDoorBu
import Derived.Test.YtmlchbldcoenaaaDoorBv
namespace Go.Proofs.YtmlchbldcoenaaaDoor
open Go.RowKit Go.Proofs.YtmlchbldcoenaaaDoorW.PrintWords

theorem mayAll_next {l : List (Int × List Int)} {k : Nat} {f : Int × List Int} (h : k < l.length) (hf : f = l.getD k dF) : mayAll (l.take (k + 1)) = (mayAll (l.take k) && mayB f.1 f.2) := by
  unfold mayAll
  rw [List.take_add_one, List.any_append, hf, List.getD_eq_getElem?_getD, List.getElem?_eq_getElem h]
  simp
theorem words_ext {a b : List Int} (ha : Bm.Words a) (hb : Bm.Words b) (h : ∀ k, Bm.bitAt a k = Bm.bitAt b k) (k : Nat) : a.getD k 0 = b.getD k 0 := by
  have w (m : List Int) (hm : Bm.Words m) : 0 ≤ m.getD k 0 ∧ m.getD k 0 < 18446744073709551616 := by
    rcases Nat.lt_or_ge k m.length with h | h
    · exact hm _ (getD_mem 0 h)
    · rw [getD_past m k (by omega)]; omega
  have h1 := w a ha
  have h2 := w b hb
  have e : (a.getD k 0).toNat = (b.getD k 0).toNat := by
    apply Nat.eq_of_testBit_eq
    intro j
    rcases Nat.lt_or_ge j 64 with hj | hj
    · have := h (64 * k + j)
      unfold Bm.bitAt at this
      rwa [show (64 * k + j) / 64 = k by omega, show (64 * k + j) % 64 = j by omega] at this
    · have hp : 2 ^ 64 ≤ 2 ^ j := Nat.pow_le_pow_right (by decide) hj
      rw [Nat.testBit_lt_two_pow (by omega), Nat.testBit_lt_two_pow (by omega)]
  omega
theorem table_same {l : List (Int × List Int)} (h : newOk l = true) (hI : FnsIn l) : ((l.map entryOf).map fnOf).length = l.length ∧ ∀ k, k < ((l.map entryOf).map fnOf).length → (((l.map entryOf).map fnOf).getD k dF).1 = (l.getD k dF).1 ∧ ∀ j, (((l.map entryOf).map fnOf).getD k dF).2.getD j 0 = (l.getD k dF).2.getD j 0 := by
  have hl : ((l.map entryOf).map fnOf).length = l.length := by rw [List.length_map, List.length_map]
  refine ⟨hl, fun k hk => ?_⟩
  rw [hl] at hk
  have e : ((l.map entryOf).map fnOf).getD k dF = fnOf (entryOf (l.getD k dF)) := by
    rw [List.getD_eq_getElem?_getD, List.getD_eq_getElem?_getD, List.getElem?_map, List.getElem?_map, List.getElem?_eq_getElem hk]; rfl
  rw [e]
  refine ⟨rfl, fun j => ?_⟩
  exact words_ext (Bm.ofL_words _) (hI _ (getD_mem dF hk)).1 (fun i => bitAt_same (newOk_may h _ (getD_mem dF hk)) i) j

set_option maxRecDepth 100000 in
set_option maxHeartbeats 4000000 in
theorem is_great (A : Option Addr) (c : Nat) (l : List (Int × List Int)) (w : World) (hr : FnC w A l.length l) (hT : Tab w) (hg : greatL l = true) :
    Calls Tryd.prog 4 #[.slice A l.length c] w fun e w' => e = .returned (.bool true) ∧ Below w.heap.size w w' := by
  have HG := Lk.mk (hg ▸ great_any A c l w hr)
  have HA := Lk.mk (awake_any w hT)
  clear hr hT hg
  go_enter Tryd.func4, Tryd.ntmps4
  go_wp2_with (first
    | (go_at_call 12; (with_reducible refine HG.out.mono ?_); rintro e w' ⟨rfl, rfl⟩)
    | (go_at_call 13; (with_reducible refine HA.out.mono ?_); rintro e w' ⟨rfl, hb⟩))
  go_ret
  exact ⟨rfl, hb⟩

set_option maxRecDepth 100000 in
set_option maxHeartbeats 4000000 in
theorem is_rest (A : Option Addr) (c : Nat) (l : List (Int × List Int)) (w : World) (hr : FnC w A l.length l) (hI : FnsIn l) (hT : Tab w) (hg : greatL l = false) :
    Calls Tryd.prog 4 #[.slice A l.length c] w fun e w' => e = .returned (.bool true) ∧ Below w.heap.size w w' := by
  have hOk := hI.ok hg
  have hm := hr.2.1
  have HG := Lk.mk (hg ▸ great_any A c l w hr)
  have HR := Lk.mk hr
  have HI := Lk.mk hI
  have HLn := Lk.mk (show ∀ f ∈ l, f.2.length ≤ 40 from fun f hf => FnsIn.len hg hf)
  have HN0 := Lk.mk (show newOk l = false → ∀ W, Below w.heap.size w W → _ from fun h W hb => new_bad A c l W (hr.below hb) hOk (hT.below hb) h)
  have HN1 := Lk.mk (show newOk l = true → ∀ W, Below w.heap.size w W → _ from fun h W hb => new_good A c l W (hr.below hb) hOk (hT.below hb) h)
  have HM := Lk.mk (show ∀ W, Below w.heap.size w W → _ from fun W hb => mayAll_any A c l W (hr.below hb) hOk (hT.below hb))
  have HLs := Lk.mk (show ∀ W, Below w.heap.size w W → _ from fun W hb => least_any A c l W (hr.below hb) hOk (hT.below hb))
  have HAl := Lk.mk (show ∀ W, Below w.heap.size w W → _ from fun W hb => refAll_any A c l W (hr.below hb) (fun f hf => ⟨(hI f hf).1, by have := HLn.out f hf; omega⟩))
  have HT := Lk.mk hT
  clear hr hI hT hg hOk
  go_enter Tryd.func4, Tryd.ntmps4
  go_wp2_with (go_at_call 12; (with_reducible refine HG.out.mono ?_); rintro e w' ⟨rfl, hw⟩; obtain rfl := hw.symm; clear hw)
  go_loopg [3, 4, 5] l.length (fun gg v3 v4 v5 wr => ∃ (k : Nat) (b : Bool) (n : Int), k ≤ l.length ∧ l.length - k ≤ gg ∧ v3 = .bool b ∧ v4 = .int .i64 n ∧ v5 = .int .i64 k ∧ 0 ≤ n ∧ n ≤ 5000 ∧ Lk (b = mayAll (l.take k)) ∧ Lk (n = leastL (l.take k)) ∧ Lk (Below w.heap.size w wr))
  case atStart => exact ⟨0, true, 0, by omega, by omega, rfl, rfl, rfl, by omega, by omega, ⟨rfl⟩, ⟨rfl⟩, ⟨Below.refl _ _⟩⟩
  case round =>
    obtain ⟨k, b, n, hk, hgg, rfl, rfl, rfl, hn0, hn1, HBm, HNm, HB⟩ := hrel
    by_cases hlt : k < l.length
    · have hltz : (k : Int) < (l.length : Int) := by omega
      obtain ⟨ad, A1, c1, rfl, hcell0, hcell1, hc1, hr1⟩ := (HR.out.below HB.out).at_ k hlt
      obtain ⟨f, hf⟩ : ∃ f, f = l.getD k dF := ⟨_, rfl⟩
      rw [← hf] at hcell0 hcell1 hc1 hr1
      have HMem := Lk.mk (show f ∈ l by rw [hf]; exact getD_mem _ hlt)
      have HX := Lk.mk (mayAll_next hlt hf)
      have HY := Lk.mk (least_next hlt hf)
      have HR1 := Lk.mk hr1
      have HQ := Lk.mk (show ∀ W, Below wr.heap.size wr W → _ from fun W hb => refMay_any f.1 A1 c1 f.2 W (HR1.out.below hb) (HI.out f HMem.out).1 (by have := HLn.out f HMem.out; omega))
      have HBr := Lk.mk (Below.refl wr.heap.size wr)
      have hs : mayB f.1 f.2 = true → 0 ≤ f.1 ∧ f.1 ≤ 1000 := fun h => by have := (may_iff _ _).1 h; omega
      have HC0 := Lk.mk hcell0
      have HC1 := Lk.mk hcell1
      clear hf hr1 hc1
      rw [← HBm.out] at HX
      rw [← HNm.out] at HY
      cases hmb : mayB f.1 f.2 with
      | false =>
        rw [hmb] at HX HY
        simp only [hmb] at HQ
        clear hs hmb
        cases b with
        | false =>
          go_wp2_with (go_at_call 20; (with_reducible refine (HQ.out _ HBr.out).mono ?_); rintro e w' ⟨rfl, hb⟩; have HBr := Lk.mk (below_then HBr.out HBr.out.size hb); clear hb hcell0 hcell1; have hcell0 := pw_cell_below HBr.out HC0.out; have hcell1 := pw_cell_below HBr.out HC1.out)
          go_roundg (l.length - (k + 1))
          case measure => omega
          case rel => exact ⟨k + 1, false, n, by omega, by omega, rfl, rfl, by go_num, hn0, hn1, ⟨by rw [HX.out]; rfl⟩, ⟨by rw [HY.out]; rfl⟩, ⟨below_then HB.out HB.out.size HBr.out⟩⟩
        | true =>
          go_wp2_with (go_at_call 20; (with_reducible refine (HQ.out _ HBr.out).mono ?_); rintro e w' ⟨rfl, hb⟩; have HBr := Lk.mk (below_then HBr.out HBr.out.size hb); clear hb hcell0 hcell1; have hcell0 := pw_cell_below HBr.out HC0.out; have hcell1 := pw_cell_below HBr.out HC1.out)
          go_roundg (l.length - (k + 1))
          case measure => omega
          case rel => exact ⟨k + 1, false, n, by omega, by omega, rfl, rfl, by go_num, hn0, hn1, ⟨by rw [HX.out]; rfl⟩, ⟨by rw [HY.out]; rfl⟩, ⟨below_then HB.out HB.out.size HBr.out⟩⟩
      | true =>
        rw [hmb] at HX HY
        simp only [hmb] at HQ
        obtain ⟨hs0, hs1⟩ := hs hmb
        clear hs hmb
        have hwr : IntKind.i64.wrap (f.1 + 2) = f.1 + 2 := IntWalk.i64_in _ (by omega)
        cases b with
        | false =>
          go_wp2_with (go_at_call 20; (with_reducible refine (HQ.out _ HBr.out).mono ?_); rintro e w' ⟨rfl, hb⟩; have HBr := Lk.mk (below_then HBr.out HBr.out.size hb); clear hb hcell0 hcell1; have hcell0 := pw_cell_below HBr.out HC0.out; have hcell1 := pw_cell_below HBr.out HC1.out)
          all_goals go_roundg (l.length - (k + 1))
          all_goals try (case measure => omega)
          all_goals exact ⟨k + 1, false, max n (f.1 + 2), by omega, by omega, rfl, (by congr 1; omega), by go_num, by omega, by omega, ⟨by rw [HX.out]; rfl⟩, ⟨by rw [HY.out, if_pos trivial]⟩, ⟨below_then HB.out HB.out.size HBr.out⟩⟩
        | true =>
          go_wp2_with (go_at_call 20; (with_reducible refine (HQ.out _ HBr.out).mono ?_); rintro e w' ⟨rfl, hb⟩; have HBr := Lk.mk (below_then HBr.out HBr.out.size hb); clear hb hcell0 hcell1; have hcell0 := pw_cell_below HBr.out HC0.out; have hcell1 := pw_cell_below HBr.out HC1.out)
          all_goals go_roundg (l.length - (k + 1))
          all_goals try (case measure => omega)
          all_goals exact ⟨k + 1, true, max n (f.1 + 2), by omega, by omega, rfl, (by congr 1; omega), by go_num, by omega, by omega, ⟨by rw [HX.out]; rfl⟩, ⟨by rw [HY.out, if_pos trivial]⟩, ⟨below_then HB.out HB.out.size HBr.out⟩⟩
    · have hltz : ¬ (k : Int) < (l.length : Int) := by omega
      obtain rfl : k = l.length := by omega
      rw [List.take_length] at HBm HNm
      rw [← HNm.out] at HLs
      rw [← HBm.out] at HM
      cases hn : newOk l with
      | false =>
        have HN := Lk.mk (HN0.out hn)
        rw [hn] at HAl
        have HLen := Lk.mk (show ∀ W, _ from fun W => len_any (.pointer none) [] W (Or.inl ⟨rfl, rfl⟩))
        rw [show ((([] : List (Int × (List Int × List Int))).length : Nat) : Int) = 0 from rfl] at HLen
        clear HBm HNm hn
        cases b <;>
        · go_wp2_with (first
            | (go_at_call 14; (with_reducible refine (HN.out _ HB.out).mono ?_); rintro e w' ⟨rfl, hb⟩; have HB := Lk.mk (below_then HB.out HB.out.size hb); clear hb)
            | (go_at_call 21; (with_reducible refine (HM.out _ HB.out).mono ?_); rintro e w' ⟨rfl, hb⟩; have HB := Lk.mk (below_then HB.out HB.out.size hb); clear hb)
            | (go_at_call 22; (with_reducible refine (HLs.out _ HB.out).mono ?_); rintro e w' ⟨rfl, hb⟩; have HB := Lk.mk (below_then HB.out HB.out.size hb); clear hb)
            | (go_at_call 23; (with_reducible refine (HAl.out _ HB.out).mono ?_); rintro e w' ⟨rfl, hb⟩; have HB := Lk.mk (below_then HB.out HB.out.size hb); clear hb)
            | (go_at_call 24; (with_reducible refine (HLen.out _).mono ?_); rintro e w' ⟨rfl, rfl⟩)
            | (go_at_call 13; (with_reducible refine (awake_any _ (HT.out.below HB.out)).mono ?_); rintro e w' ⟨rfl, hb⟩; have HB := Lk.mk (below_then HB.out HB.out.size hb); clear hb))
          go_ret
          exact ⟨rfl, HB.out⟩
      | true =>
        have HN := Lk.mk (HN1.out hn)
        have hb1 : b = true := by
          rw [HBm.out]
          unfold newOk at hn
          rw [Bool.and_eq_true] at hn
          exact hn.2
        subst hb1
        rw [hn] at HAl
        have HTS := Lk.mk (table_same hn HI.out)
        have hn100 : (l.map entryOf).length ≤ 100 := by
          unfold newOk at hn
          rw [Bool.and_eq_true, Bool.and_eq_true, decide_eq_true_eq, decide_eq_true_eq] at hn
          rw [List.length_map]; exact hn.1.2
        have HFl := Lk.mk (show ∀ e ∈ l.map entryOf, e.2.1.length * 8 ≤ 140737488355328 from fun e he => by
          obtain ⟨f, _, rfl⟩ := List.mem_map.1 he
          have := Bm.ofL_length (Bm.bitsL f.2 f.1)
          show (Bm.ofL (Bm.bitsL f.2 f.1)).length * 8 ≤ _
          omega)
        have HLen := Lk.mk (show ∀ W p, TblAt W p (l.map entryOf) → _ from fun W p h => len_any p (l.map entryOf) W h.or)
        simp only [List.length_map] at HLen
        have HFn := Lk.mk (show ∀ W p, TblAt W p (l.map entryOf) → Calls Tryd.prog 15 #[p] W fun e w' => ∃ A5 c5, e = .returned (.slice A5 l.length c5) ∧ FnC w' A5 l.length ((l.map entryOf).map fnOf) ∧ Below W.heap.size W w' from fun W p h => (fns_any p _ W h HFl.out hn100).mono (by
          rintro e w' ⟨v5, rfl, hR5, hb⟩
          obtain ⟨A5, c5, rfl, _, hC5⟩ := Kd.R_reads hR5
          rw [HTS.out.1] at hC5 ⊢
          exact ⟨A5, c5, rfl, kF_fnC hC5, hb⟩))
        have HSm := Lk.mk (show ∀ W A5 c5, FnC W A5 l.length ((l.map entryOf).map fnOf) → Below w.heap.size w W → Calls Tryd.prog 19 #[.slice A5 l.length c5, .slice A l.length c] W fun e w' => e = .returned (.bool true) ∧ Below W.heap.size W w' from fun W A5 c5 h5 hb => by
          have q := same13_true A5 c5 _ A c l W (by rw [HTS.out.1]; exact h5) (HR.out.below hb) HTS.out.1.symm HTS.out.2
          rwa [HTS.out.1] at q)
        clear HBm HNm hn
        go_wp2_with (first
          | (go_at_call 14; (with_reducible refine (HN.out _ HB.out).mono ?_); rintro e w1 ⟨p, rfl, ht, hb⟩; have HB := Lk.mk (below_then HB.out HB.out.size hb); have HTB := Lk.mk ht; have HB1 := Lk.mk (Below.refl w1.heap.size w1); clear hb ht)
          | (go_at_call 21; (with_reducible refine (HM.out _ (below_then HB.out HB.out.size HB1.out)).mono ?_); rintro e w' ⟨rfl, hb⟩; have HB1 := Lk.mk (below_then HB1.out HB1.out.size hb); clear hb)
          | (go_at_call 22; (with_reducible refine (HLs.out _ (below_then HB.out HB.out.size HB1.out)).mono ?_); rintro e w' ⟨rfl, hb⟩; have HB1 := Lk.mk (below_then HB1.out HB1.out.size hb); clear hb)
          | (go_at_call 23; (with_reducible refine (HAl.out _ (below_then HB.out HB.out.size HB1.out)).mono ?_); rintro e w' ⟨rfl, hb⟩; have HB1 := Lk.mk (below_then HB1.out HB1.out.size hb); clear hb)
          | (go_at_call 24; (with_reducible refine (HLen.out _ _ (HTB.out.below HB1.out)).mono ?_); rintro e w' ⟨rfl, rfl⟩)
          | (go_at_call 15; (with_reducible refine (HFn.out _ _ (HTB.out.below HB1.out)).mono ?_); rintro e w' ⟨A5, c5, rfl, h5, hb⟩; have HB1 := Lk.mk (below_then HB1.out HB1.out.size hb); have HC5 := Lk.mk h5; clear hb h5)
          | (go_at_call 19; (with_reducible refine (HSm.out _ _ _ HC5.out (below_then HB.out HB.out.size HB1.out)).mono ?_); rintro e w' ⟨rfl, hb⟩; have HB1 := Lk.mk (below_then HB1.out HB1.out.size hb); clear hb)
          | (go_at_call 13; (with_reducible refine (awake_any _ (HT.out.below (below_then HB.out HB.out.size HB1.out))).mono ?_); rintro e w' ⟨rfl, hb⟩; have HB1 := Lk.mk (below_then HB1.out HB1.out.size hb); clear hb))
        go_ret
        exact ⟨rfl, below_then HB.out HB.out.size HB1.out⟩
theorem lawOfFnsIs (A : Option Addr) (c : Nat) (l : List (Int × List Int)) (w : World) (hr : FnC w A l.length l) (hI : FnsIn l) (hT : Tab w) :
    Calls Tryd.prog 4 #[.slice A l.length c] w fun e w' => e = .returned (.bool true) ∧ Below w.heap.size w w' := by
  cases hg : greatL l with
  | true => exact is_great A c l w hr hT hg
  | false => exact is_rest A c l w hr hI hT hg
end Go.Proofs.YtmlchbldcoenaaaDoor
