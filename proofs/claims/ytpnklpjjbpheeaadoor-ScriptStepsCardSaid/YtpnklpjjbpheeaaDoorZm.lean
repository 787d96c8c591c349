/-
  The walk of the reference's Step where its numbers are plain and its value may be; conditions: the row of slots reads as told.
-/
import Derived.Test.YtpnklpjjbpheeaaDoorZl
import Derived.Lib.ConvBytes
import Derived.Laws.BytesArg
import Derived.Laws.Rows
import Derived.Deep.RegionHeld3
namespace Go.Proofs.YtpnklpjjbpheeaaDoor
open Go.RowKit Go.Proofs.YtpnklpjjbpheeaaDoorW.PrintWords
open Go.Proofs.Fl Go.Proofs.YtpnklpjjbpheeaaDoor.Flt

set_option maxRecDepth 100000 in
set_option maxHeartbeats 8000000 in
theorem rstep_yes (x : St) (A : Option Addr) (c : Nat) (l : List Int) (w : World) (hx : StIn x) (h : headB x = true) (hr : ReadsInt w .i64 A l.length l) :
    Calls Tryd.prog 17 #[.agg (stCells x A l.length c)] w fun e w' => e = .returned (.bool (rstepB x l)) ∧ Below w.heap.size w w' := by
  have HV := Lk.mk (fun W => refVMay_any x.v W hx.v)
  have HPL := Lk.mk (fun n W => rplain_any n W)
  have hm := hr.2.1
  have HZ := Lk.mk (show rstepB x l = (!(l.any plN) && restB x l.length) by unfold rstepB; rw [h]; rfl)
  generalize rstepB x l = Z at *
  obtain ⟨k, p, g, f, d, s, v0, v1, v2, v3, o⟩ := x
  unfold headB at h
  simp only [Bool.and_eq_true] at h
  obtain ⟨⟨hk, h7⟩, hmv⟩ := h
  unfold plain7 St.v at *
  dsimp only at hk h7 hmv HV ⊢
  rw [hmv] at HV
  unfold okK at hk
  simp only [Bool.and_eq_true, decide_eq_true_eq] at hk
  simp only [List.any_cons, List.any_nil, Bool.or_false, Bool.not_eq_true', Bool.or_eq_false_iff] at h7
  obtain ⟨h1, h2, h3, h4, h5, h6, h7⟩ := h7
  unfold stCells
  dsimp only
  have HB0 := Lk.mk (below_alloc (Below.refl w.heap.size w) (.cells #[.int .u8 k, .int .i64 p, .int .i64 g, .int .i64 f, .int .i64 d, .int .i64 s, .int .u8 v0, .int .u64 v1, .int .i64 v2, .int .i64 v3, .int .u8 o, .slice A l.length c] 46))
  have HX := Lk.mk (blk_new w (.cells #[.int .u8 k, .int .i64 p, .int .i64 g, .int .i64 f, .int .i64 d, .int .i64 s, .int .u8 v0, .int .u64 v1, .int .i64 v2, .int .i64 v3, .int .u8 o, .slice A l.length c] 46))
  have HR := Lk.mk hr
  obtain ⟨⟨b0, b1, b2, b3, b4, b5⟩, b6, b7, b8, b9, b10, b11⟩ := line_cells HX.out
  have HPp := Lk.mk (fun W => rplain_any p W)
  rw [h1] at HPp
  have HPg := Lk.mk (fun W => rplain_any g W)
  rw [h2] at HPg
  have HPf := Lk.mk (fun W => rplain_any f W)
  rw [h3] at HPf
  have HPd := Lk.mk (fun W => rplain_any d W)
  rw [h4] at HPd
  have HPs := Lk.mk (fun W => rplain_any s W)
  rw [h5] at HPs
  have HPv2 := Lk.mk (fun W => rplain_any v2 W)
  rw [h6] at HPv2
  have HPv3 := Lk.mk (fun W => rplain_any v3 W)
  rw [h7] at HPv3
  have hk1 : ¬ k < 1 := by omega
  have hk2 : ¬ 13 < k := by omega
  have HK := Lk.mk hk
  clear hx hr hk h1 h2 h3 h4 h5 h6 h7 hmv
  go_enter Tryd.func17, Tryd.ntmps17
  go_wp2_with (first
    | (go_at_call 29; (with_reducible refine (HPp.out _).mono ?_); rintro e w' ⟨rfl, hw⟩; obtain rfl := hw.symm; clear hw)
    | (go_at_call 29; (with_reducible refine (HPg.out _).mono ?_); rintro e w' ⟨rfl, hw⟩; obtain rfl := hw.symm; clear hw)
    | (go_at_call 29; (with_reducible refine (HPf.out _).mono ?_); rintro e w' ⟨rfl, hw⟩; obtain rfl := hw.symm; clear hw)
    | (go_at_call 29; (with_reducible refine (HPd.out _).mono ?_); rintro e w' ⟨rfl, hw⟩; obtain rfl := hw.symm; clear hw)
    | (go_at_call 29; (with_reducible refine (HPs.out _).mono ?_); rintro e w' ⟨rfl, hw⟩; obtain rfl := hw.symm; clear hw)
    | (go_at_call 29; (with_reducible refine (HPv2.out _).mono ?_); rintro e w' ⟨rfl, hw⟩; obtain rfl := hw.symm; clear hw)
    | (go_at_call 29; (with_reducible refine (HPv3.out _).mono ?_); rintro e w' ⟨rfl, hw⟩; obtain rfl := hw.symm; clear hw)
    | (go_at_call 30; (with_reducible refine (HV.out _).mono ?_); rintro e w1 ⟨rfl, hb⟩; have HB := Lk.mk (below_then HB0.out HB0.out.size hb); have HX := Lk.mk (blk_below HX.out hb); obtain ⟨⟨b0, b1, b2, b3, b4, b5⟩, b6, b7, b8, b9, b10, b11⟩ := line_cells HX.out; clear hb))
  clear HPp HPg HPf HPd HPs HPv2 HPv3 HV HB0
  go_loopg [4, 66] l.length (fun gg _ v wr => ∃ i : Nat, i ≤ l.length ∧ l.length - i ≤ gg ∧ v = .int .i64 i ∧ Lk ((l.take i).any plN = false) ∧ wr = w1)
  case atStart => exact ⟨0, by omega, by omega, rfl, ⟨by simp⟩, rfl⟩
  case round =>
    obtain ⟨i, hi, hg, rfl, HN, rfl⟩ := hrel
    by_cases hlt : i < l.length
    · obtain ⟨ad, hA, hcell⟩ := (HR.out.below HB.out).at_ (i : Int) (by omega) (by omega)
      have hltz : (i : Int) < (l.length : Int) := by omega
      have HX1 := Lk.mk (show rd l (i : Int) = l.getD i 0 by unfold rd; rw [Int.toNat_natCast])
      rw [Int.toNat_natCast, HX1.out] at hcell
      obtain ⟨y, hy⟩ : ∃ y, y = l.getD i 0 := ⟨_, rfl⟩
      rw [← hy] at hcell
      have HPY := Lk.mk (HPL.out y)
      have HNX := Lk.mk (show (l.take (i + 1)).any plN = ((l.take i).any plN || plN y) by rw [hy, List.take_add_one, List.any_append, List.getD_eq_getElem?_getD, List.getElem?_eq_getElem hlt]; simp)
      have HM := Lk.mk (show y ∈ l by rw [hy]; exact getD_mem _ hlt)
      clear hy
      subst hA
      cases hp : plN y with
      | true =>
        rw [hp] at HPY
        have HZZ := Lk.mk (show Z = false by rw [HZ.out, show l.any plN = true from List.any_eq_true.2 ⟨y, HM.out, hp⟩]; rfl)
        clear HZ hp
        go_wp2_with (go_at_call 29; (with_reducible refine (HPY.out _).mono ?_); rintro e w' ⟨rfl, hw⟩; obtain rfl := hw.symm; clear hw)
        go_ret
        exact ⟨ret_bool HZZ.out.symm, HB.out⟩
      | false =>
        rw [hp] at HPY HNX
        have HN2 := Lk.mk (show (l.take (i + 1)).any plN = false by rw [HNX.out, HN.out]; rfl)
        clear HZ hp HNX
        go_wp2_with (go_at_call 29; (with_reducible refine (HPY.out _).mono ?_); rintro e w' ⟨rfl, hw⟩; obtain rfl := hw.symm; clear hw)
        go_roundg (l.length - (i + 1))
        case measure => omega
        case rel => exact ⟨i + 1, by omega, by omega, by go_num, HN2, rfl⟩
    · have hltz : ¬ (i : Int) < (l.length : Int) := by omega
      obtain rfl : i = l.length := by omega
      have HZZ := Lk.mk (show Z = restB ⟨k, p, g, f, d, s, v0, v1, v2, v3, o⟩ l.length by have h := HN.out; rw [List.take_length] at h; rw [HZ.out, h]; rfl)
      clear HZ HN
      have hk := HK.out
      have hks : k = 1 ∨ k = 2 ∨ k = 3 ∨ k = 4 ∨ k = 5 ∨ k = 6 ∨ k = 7 ∨ k = 8 ∨ k = 9 ∨ k = 10 ∨ k = 11 ∨ k = 12 ∨ k = 13 := by omega
      clear hk HK hk1 hk2 HR
      generalize l.length = n at *
      rcases hks with hks | hks
      · subst hks
        have HI0 := Lk.mk (show ∀ W : World, Calls Tryd.prog 31 #[.int .u8 1, .slice (some ⟨W.heap.size, 0, none⟩) 4 4] (W.alloc (.cells #[.int .u8 1, .int .u8 11, .int .u8 12, .int .u8 13] 5)) fun e w' => e = .returned (.bool true) ∧ w' = W.alloc (.cells #[.int .u8 1, .int .u8 11, .int .u8 12, .int .u8 13] 5) from fun W => rin_lit 1 [1, 11, 12, 13] true W _ rfl (by decide) (by decide))
        have HI1 := Lk.mk (show ∀ W : World, Calls Tryd.prog 31 #[.int .u8 1, .slice (some ⟨W.heap.size, 0, none⟩) 5 5] (W.alloc (.cells #[.int .u8 5, .int .u8 6, .int .u8 7, .int .u8 8, .int .u8 9] 5)) fun e w' => e = .returned (.bool false) ∧ w' = W.alloc (.cells #[.int .u8 5, .int .u8 6, .int .u8 7, .int .u8 8, .int .u8 9] 5) from fun W => rin_lit 1 [5, 6, 7, 8, 9] false W _ rfl (by decide) (by decide))
        have HI2 := Lk.mk (show ∀ W : World, Calls Tryd.prog 31 #[.int .u8 1, .slice (some ⟨W.heap.size, 0, none⟩) 4 4] (W.alloc (.cells #[.int .u8 5, .int .u8 6, .int .u8 7, .int .u8 8] 5)) fun e w' => e = .returned (.bool false) ∧ w' = W.alloc (.cells #[.int .u8 5, .int .u8 6, .int .u8 7, .int .u8 8] 5) from fun W => rin_lit 1 [5, 6, 7, 8] false W _ rfl (by decide) (by decide))
        by_cases hd : d = 0
        · have hd2 : d = 0 := hd
          clear hd
          subst hd2
          by_cases hn : n = 0
          · have hn2 : n = 0 := hn
            clear hn
            subst hn2
            go_wp2_with (first
              | (go_at_call 31; (with_reducible refine (HI0.out _).mono ?_); rintro e w2 ⟨rfl, hw⟩; have HB := Lk.mk (show Below w.heap.size w w2 by rw [hw]; exact below_alloc HB.out _); have HX := Lk.mk (show w2.heap[w.heap.size]? = some (.cells #[.int .u8 1, .int .i64 p, .int .i64 g, .int .i64 f, .int .i64 0, .int .i64 s, .int .u8 v0, .int .u64 v1, .int .i64 v2, .int .i64 v3, .int .u8 o, .slice A 0 c] 46 (0, 0)) by rw [hw]; exact blk_alloc HX.out _); obtain ⟨⟨b0, b1, b2, b3, b4, b5⟩, b6, b7, b8, b9, b10, b11⟩ := line_cells HX.out; clear hw)
              | (go_at_call 31; (with_reducible refine (HI1.out _).mono ?_); rintro e w2 ⟨rfl, hw⟩; have HB := Lk.mk (show Below w.heap.size w w2 by rw [hw]; exact below_alloc HB.out _); have HX := Lk.mk (show w2.heap[w.heap.size]? = some (.cells #[.int .u8 1, .int .i64 p, .int .i64 g, .int .i64 f, .int .i64 0, .int .i64 s, .int .u8 v0, .int .u64 v1, .int .i64 v2, .int .i64 v3, .int .u8 o, .slice A 0 c] 46 (0, 0)) by rw [hw]; exact blk_alloc HX.out _); obtain ⟨⟨b0, b1, b2, b3, b4, b5⟩, b6, b7, b8, b9, b10, b11⟩ := line_cells HX.out; clear hw)
              | (go_at_call 31; (with_reducible refine (HI2.out _).mono ?_); rintro e w2 ⟨rfl, hw⟩; have HB := Lk.mk (show Below w.heap.size w w2 by rw [hw]; exact below_alloc HB.out _); have HX := Lk.mk (show w2.heap[w.heap.size]? = some (.cells #[.int .u8 1, .int .i64 p, .int .i64 g, .int .i64 f, .int .i64 0, .int .i64 s, .int .u8 v0, .int .u64 v1, .int .i64 v2, .int .i64 v3, .int .u8 o, .slice A 0 c] 46 (0, 0)) by rw [hw]; exact blk_alloc HX.out _); obtain ⟨⟨b0, b1, b2, b3, b4, b5⟩, b6, b7, b8, b9, b10, b11⟩ := line_cells HX.out; clear hw))
            all_goals go_ret
            all_goals refine ⟨ret_bool ?_, HB.out⟩
            all_goals rw [HZZ.out]
            all_goals clear HZZ HB HX HI0 HI1 HI2 HPL
            all_goals unfold restB
            all_goals dsimp only
            all_goals simp_all
            all_goals (first | done | omega | (intros; omega) | trivial)
          · have hnb : (n == 0) = false := beq_false_of_ne hn
            have hnn : (n != 0) = true := by simp [hn]
            have hnp : 0 < n := by omega
            go_wp2_with (first
              | (go_at_call 31; (with_reducible refine (HI0.out _).mono ?_); rintro e w2 ⟨rfl, hw⟩; have HB := Lk.mk (show Below w.heap.size w w2 by rw [hw]; exact below_alloc HB.out _); have HX := Lk.mk (show w2.heap[w.heap.size]? = some (.cells #[.int .u8 1, .int .i64 p, .int .i64 g, .int .i64 f, .int .i64 0, .int .i64 s, .int .u8 v0, .int .u64 v1, .int .i64 v2, .int .i64 v3, .int .u8 o, .slice A n c] 46 (0, 0)) by rw [hw]; exact blk_alloc HX.out _); obtain ⟨⟨b0, b1, b2, b3, b4, b5⟩, b6, b7, b8, b9, b10, b11⟩ := line_cells HX.out; clear hw)
              | (go_at_call 31; (with_reducible refine (HI1.out _).mono ?_); rintro e w2 ⟨rfl, hw⟩; have HB := Lk.mk (show Below w.heap.size w w2 by rw [hw]; exact below_alloc HB.out _); have HX := Lk.mk (show w2.heap[w.heap.size]? = some (.cells #[.int .u8 1, .int .i64 p, .int .i64 g, .int .i64 f, .int .i64 0, .int .i64 s, .int .u8 v0, .int .u64 v1, .int .i64 v2, .int .i64 v3, .int .u8 o, .slice A n c] 46 (0, 0)) by rw [hw]; exact blk_alloc HX.out _); obtain ⟨⟨b0, b1, b2, b3, b4, b5⟩, b6, b7, b8, b9, b10, b11⟩ := line_cells HX.out; clear hw)
              | (go_at_call 31; (with_reducible refine (HI2.out _).mono ?_); rintro e w2 ⟨rfl, hw⟩; have HB := Lk.mk (show Below w.heap.size w w2 by rw [hw]; exact below_alloc HB.out _); have HX := Lk.mk (show w2.heap[w.heap.size]? = some (.cells #[.int .u8 1, .int .i64 p, .int .i64 g, .int .i64 f, .int .i64 0, .int .i64 s, .int .u8 v0, .int .u64 v1, .int .i64 v2, .int .i64 v3, .int .u8 o, .slice A n c] 46 (0, 0)) by rw [hw]; exact blk_alloc HX.out _); obtain ⟨⟨b0, b1, b2, b3, b4, b5⟩, b6, b7, b8, b9, b10, b11⟩ := line_cells HX.out; clear hw))
            all_goals go_ret
            all_goals refine ⟨ret_bool ?_, HB.out⟩
            all_goals rw [HZZ.out]
            all_goals clear HZZ HB HX HI0 HI1 HI2 HPL
            all_goals unfold restB
            all_goals dsimp only
            all_goals simp_all
            all_goals (first | done | omega | (intros; omega) | trivial)
        · have hdb : (d == 0) = false := beq_false_of_ne hd
          have hdn : (d != 0) = true := by simp [hd]
          go_wp2_with (first
            | (go_at_call 31; (with_reducible refine (HI0.out _).mono ?_); rintro e w2 ⟨rfl, hw⟩; have HB := Lk.mk (show Below w.heap.size w w2 by rw [hw]; exact below_alloc HB.out _); have HX := Lk.mk (show w2.heap[w.heap.size]? = some (.cells #[.int .u8 1, .int .i64 p, .int .i64 g, .int .i64 f, .int .i64 d, .int .i64 s, .int .u8 v0, .int .u64 v1, .int .i64 v2, .int .i64 v3, .int .u8 o, .slice A n c] 46 (0, 0)) by rw [hw]; exact blk_alloc HX.out _); obtain ⟨⟨b0, b1, b2, b3, b4, b5⟩, b6, b7, b8, b9, b10, b11⟩ := line_cells HX.out; clear hw)
            | (go_at_call 31; (with_reducible refine (HI1.out _).mono ?_); rintro e w2 ⟨rfl, hw⟩; have HB := Lk.mk (show Below w.heap.size w w2 by rw [hw]; exact below_alloc HB.out _); have HX := Lk.mk (show w2.heap[w.heap.size]? = some (.cells #[.int .u8 1, .int .i64 p, .int .i64 g, .int .i64 f, .int .i64 d, .int .i64 s, .int .u8 v0, .int .u64 v1, .int .i64 v2, .int .i64 v3, .int .u8 o, .slice A n c] 46 (0, 0)) by rw [hw]; exact blk_alloc HX.out _); obtain ⟨⟨b0, b1, b2, b3, b4, b5⟩, b6, b7, b8, b9, b10, b11⟩ := line_cells HX.out; clear hw)
            | (go_at_call 31; (with_reducible refine (HI2.out _).mono ?_); rintro e w2 ⟨rfl, hw⟩; have HB := Lk.mk (show Below w.heap.size w w2 by rw [hw]; exact below_alloc HB.out _); have HX := Lk.mk (show w2.heap[w.heap.size]? = some (.cells #[.int .u8 1, .int .i64 p, .int .i64 g, .int .i64 f, .int .i64 d, .int .i64 s, .int .u8 v0, .int .u64 v1, .int .i64 v2, .int .i64 v3, .int .u8 o, .slice A n c] 46 (0, 0)) by rw [hw]; exact blk_alloc HX.out _); obtain ⟨⟨b0, b1, b2, b3, b4, b5⟩, b6, b7, b8, b9, b10, b11⟩ := line_cells HX.out; clear hw))
          all_goals go_ret
          all_goals refine ⟨ret_bool ?_, HB.out⟩
          all_goals rw [HZZ.out]
          all_goals clear HZZ HB HX HI0 HI1 HI2 HPL
          all_goals unfold restB
          all_goals dsimp only
          all_goals simp_all
          all_goals (first | done | omega | (intros; omega) | trivial)
      rcases hks with hks | hks
      · subst hks
        have HI0 := Lk.mk (show ∀ W : World, Calls Tryd.prog 31 #[.int .u8 2, .slice (some ⟨W.heap.size, 0, none⟩) 4 4] (W.alloc (.cells #[.int .u8 1, .int .u8 11, .int .u8 12, .int .u8 13] 5)) fun e w' => e = .returned (.bool false) ∧ w' = W.alloc (.cells #[.int .u8 1, .int .u8 11, .int .u8 12, .int .u8 13] 5) from fun W => rin_lit 2 [1, 11, 12, 13] false W _ rfl (by decide) (by decide))
        have HI1 := Lk.mk (show ∀ W : World, Calls Tryd.prog 31 #[.int .u8 2, .slice (some ⟨W.heap.size, 0, none⟩) 5 5] (W.alloc (.cells #[.int .u8 5, .int .u8 6, .int .u8 7, .int .u8 8, .int .u8 9] 5)) fun e w' => e = .returned (.bool false) ∧ w' = W.alloc (.cells #[.int .u8 5, .int .u8 6, .int .u8 7, .int .u8 8, .int .u8 9] 5) from fun W => rin_lit 2 [5, 6, 7, 8, 9] false W _ rfl (by decide) (by decide))
        have HI2 := Lk.mk (show ∀ W : World, Calls Tryd.prog 31 #[.int .u8 2, .slice (some ⟨W.heap.size, 0, none⟩) 4 4] (W.alloc (.cells #[.int .u8 5, .int .u8 6, .int .u8 7, .int .u8 8] 5)) fun e w' => e = .returned (.bool false) ∧ w' = W.alloc (.cells #[.int .u8 5, .int .u8 6, .int .u8 7, .int .u8 8] 5) from fun W => rin_lit 2 [5, 6, 7, 8] false W _ rfl (by decide) (by decide))
        by_cases hf : f = 0
        · have hf2 : f = 0 := hf
          clear hf
          subst hf2
          by_cases hd : d = 0
          · have hd2 : d = 0 := hd
            clear hd
            subst hd2
            by_cases hn : n = 0
            · have hn2 : n = 0 := hn
              clear hn
              subst hn2
              go_wp2_with (first
                | (go_at_call 31; (with_reducible refine (HI0.out _).mono ?_); rintro e w2 ⟨rfl, hw⟩; have HB := Lk.mk (show Below w.heap.size w w2 by rw [hw]; exact below_alloc HB.out _); have HX := Lk.mk (show w2.heap[w.heap.size]? = some (.cells #[.int .u8 2, .int .i64 p, .int .i64 g, .int .i64 0, .int .i64 0, .int .i64 s, .int .u8 v0, .int .u64 v1, .int .i64 v2, .int .i64 v3, .int .u8 o, .slice A 0 c] 46 (0, 0)) by rw [hw]; exact blk_alloc HX.out _); obtain ⟨⟨b0, b1, b2, b3, b4, b5⟩, b6, b7, b8, b9, b10, b11⟩ := line_cells HX.out; clear hw)
                | (go_at_call 31; (with_reducible refine (HI1.out _).mono ?_); rintro e w2 ⟨rfl, hw⟩; have HB := Lk.mk (show Below w.heap.size w w2 by rw [hw]; exact below_alloc HB.out _); have HX := Lk.mk (show w2.heap[w.heap.size]? = some (.cells #[.int .u8 2, .int .i64 p, .int .i64 g, .int .i64 0, .int .i64 0, .int .i64 s, .int .u8 v0, .int .u64 v1, .int .i64 v2, .int .i64 v3, .int .u8 o, .slice A 0 c] 46 (0, 0)) by rw [hw]; exact blk_alloc HX.out _); obtain ⟨⟨b0, b1, b2, b3, b4, b5⟩, b6, b7, b8, b9, b10, b11⟩ := line_cells HX.out; clear hw)
                | (go_at_call 31; (with_reducible refine (HI2.out _).mono ?_); rintro e w2 ⟨rfl, hw⟩; have HB := Lk.mk (show Below w.heap.size w w2 by rw [hw]; exact below_alloc HB.out _); have HX := Lk.mk (show w2.heap[w.heap.size]? = some (.cells #[.int .u8 2, .int .i64 p, .int .i64 g, .int .i64 0, .int .i64 0, .int .i64 s, .int .u8 v0, .int .u64 v1, .int .i64 v2, .int .i64 v3, .int .u8 o, .slice A 0 c] 46 (0, 0)) by rw [hw]; exact blk_alloc HX.out _); obtain ⟨⟨b0, b1, b2, b3, b4, b5⟩, b6, b7, b8, b9, b10, b11⟩ := line_cells HX.out; clear hw))
              all_goals go_ret
              all_goals refine ⟨ret_bool ?_, HB.out⟩
              all_goals rw [HZZ.out]
              all_goals clear HZZ HB HX HI0 HI1 HI2 HPL
              all_goals unfold restB
              all_goals dsimp only
              all_goals simp_all
              all_goals (first | done | omega | (intros; omega) | trivial)
            · have hnb : (n == 0) = false := beq_false_of_ne hn
              have hnn : (n != 0) = true := by simp [hn]
              have hnp : 0 < n := by omega
              go_wp2_with (first
                | (go_at_call 31; (with_reducible refine (HI0.out _).mono ?_); rintro e w2 ⟨rfl, hw⟩; have HB := Lk.mk (show Below w.heap.size w w2 by rw [hw]; exact below_alloc HB.out _); have HX := Lk.mk (show w2.heap[w.heap.size]? = some (.cells #[.int .u8 2, .int .i64 p, .int .i64 g, .int .i64 0, .int .i64 0, .int .i64 s, .int .u8 v0, .int .u64 v1, .int .i64 v2, .int .i64 v3, .int .u8 o, .slice A n c] 46 (0, 0)) by rw [hw]; exact blk_alloc HX.out _); obtain ⟨⟨b0, b1, b2, b3, b4, b5⟩, b6, b7, b8, b9, b10, b11⟩ := line_cells HX.out; clear hw)
                | (go_at_call 31; (with_reducible refine (HI1.out _).mono ?_); rintro e w2 ⟨rfl, hw⟩; have HB := Lk.mk (show Below w.heap.size w w2 by rw [hw]; exact below_alloc HB.out _); have HX := Lk.mk (show w2.heap[w.heap.size]? = some (.cells #[.int .u8 2, .int .i64 p, .int .i64 g, .int .i64 0, .int .i64 0, .int .i64 s, .int .u8 v0, .int .u64 v1, .int .i64 v2, .int .i64 v3, .int .u8 o, .slice A n c] 46 (0, 0)) by rw [hw]; exact blk_alloc HX.out _); obtain ⟨⟨b0, b1, b2, b3, b4, b5⟩, b6, b7, b8, b9, b10, b11⟩ := line_cells HX.out; clear hw)
                | (go_at_call 31; (with_reducible refine (HI2.out _).mono ?_); rintro e w2 ⟨rfl, hw⟩; have HB := Lk.mk (show Below w.heap.size w w2 by rw [hw]; exact below_alloc HB.out _); have HX := Lk.mk (show w2.heap[w.heap.size]? = some (.cells #[.int .u8 2, .int .i64 p, .int .i64 g, .int .i64 0, .int .i64 0, .int .i64 s, .int .u8 v0, .int .u64 v1, .int .i64 v2, .int .i64 v3, .int .u8 o, .slice A n c] 46 (0, 0)) by rw [hw]; exact blk_alloc HX.out _); obtain ⟨⟨b0, b1, b2, b3, b4, b5⟩, b6, b7, b8, b9, b10, b11⟩ := line_cells HX.out; clear hw))
              all_goals go_ret
              all_goals refine ⟨ret_bool ?_, HB.out⟩
              all_goals rw [HZZ.out]
              all_goals clear HZZ HB HX HI0 HI1 HI2 HPL
              all_goals unfold restB
              all_goals dsimp only
              all_goals simp_all
              all_goals (first | done | omega | (intros; omega) | trivial)
          · have hdb : (d == 0) = false := beq_false_of_ne hd
            have hdn : (d != 0) = true := by simp [hd]
            go_wp2_with (first
              | (go_at_call 31; (with_reducible refine (HI0.out _).mono ?_); rintro e w2 ⟨rfl, hw⟩; have HB := Lk.mk (show Below w.heap.size w w2 by rw [hw]; exact below_alloc HB.out _); have HX := Lk.mk (show w2.heap[w.heap.size]? = some (.cells #[.int .u8 2, .int .i64 p, .int .i64 g, .int .i64 0, .int .i64 d, .int .i64 s, .int .u8 v0, .int .u64 v1, .int .i64 v2, .int .i64 v3, .int .u8 o, .slice A n c] 46 (0, 0)) by rw [hw]; exact blk_alloc HX.out _); obtain ⟨⟨b0, b1, b2, b3, b4, b5⟩, b6, b7, b8, b9, b10, b11⟩ := line_cells HX.out; clear hw)
              | (go_at_call 31; (with_reducible refine (HI1.out _).mono ?_); rintro e w2 ⟨rfl, hw⟩; have HB := Lk.mk (show Below w.heap.size w w2 by rw [hw]; exact below_alloc HB.out _); have HX := Lk.mk (show w2.heap[w.heap.size]? = some (.cells #[.int .u8 2, .int .i64 p, .int .i64 g, .int .i64 0, .int .i64 d, .int .i64 s, .int .u8 v0, .int .u64 v1, .int .i64 v2, .int .i64 v3, .int .u8 o, .slice A n c] 46 (0, 0)) by rw [hw]; exact blk_alloc HX.out _); obtain ⟨⟨b0, b1, b2, b3, b4, b5⟩, b6, b7, b8, b9, b10, b11⟩ := line_cells HX.out; clear hw)
              | (go_at_call 31; (with_reducible refine (HI2.out _).mono ?_); rintro e w2 ⟨rfl, hw⟩; have HB := Lk.mk (show Below w.heap.size w w2 by rw [hw]; exact below_alloc HB.out _); have HX := Lk.mk (show w2.heap[w.heap.size]? = some (.cells #[.int .u8 2, .int .i64 p, .int .i64 g, .int .i64 0, .int .i64 d, .int .i64 s, .int .u8 v0, .int .u64 v1, .int .i64 v2, .int .i64 v3, .int .u8 o, .slice A n c] 46 (0, 0)) by rw [hw]; exact blk_alloc HX.out _); obtain ⟨⟨b0, b1, b2, b3, b4, b5⟩, b6, b7, b8, b9, b10, b11⟩ := line_cells HX.out; clear hw))
            all_goals go_ret
            all_goals refine ⟨ret_bool ?_, HB.out⟩
            all_goals rw [HZZ.out]
            all_goals clear HZZ HB HX HI0 HI1 HI2 HPL
            all_goals unfold restB
            all_goals dsimp only
            all_goals simp_all
            all_goals (first | done | omega | (intros; omega) | trivial)
        · have hfb : (f == 0) = false := beq_false_of_ne hf
          have hfn : (f != 0) = true := by simp [hf]
          go_wp2_with (first
            | (go_at_call 31; (with_reducible refine (HI0.out _).mono ?_); rintro e w2 ⟨rfl, hw⟩; have HB := Lk.mk (show Below w.heap.size w w2 by rw [hw]; exact below_alloc HB.out _); have HX := Lk.mk (show w2.heap[w.heap.size]? = some (.cells #[.int .u8 2, .int .i64 p, .int .i64 g, .int .i64 f, .int .i64 d, .int .i64 s, .int .u8 v0, .int .u64 v1, .int .i64 v2, .int .i64 v3, .int .u8 o, .slice A n c] 46 (0, 0)) by rw [hw]; exact blk_alloc HX.out _); obtain ⟨⟨b0, b1, b2, b3, b4, b5⟩, b6, b7, b8, b9, b10, b11⟩ := line_cells HX.out; clear hw)
            | (go_at_call 31; (with_reducible refine (HI1.out _).mono ?_); rintro e w2 ⟨rfl, hw⟩; have HB := Lk.mk (show Below w.heap.size w w2 by rw [hw]; exact below_alloc HB.out _); have HX := Lk.mk (show w2.heap[w.heap.size]? = some (.cells #[.int .u8 2, .int .i64 p, .int .i64 g, .int .i64 f, .int .i64 d, .int .i64 s, .int .u8 v0, .int .u64 v1, .int .i64 v2, .int .i64 v3, .int .u8 o, .slice A n c] 46 (0, 0)) by rw [hw]; exact blk_alloc HX.out _); obtain ⟨⟨b0, b1, b2, b3, b4, b5⟩, b6, b7, b8, b9, b10, b11⟩ := line_cells HX.out; clear hw)
            | (go_at_call 31; (with_reducible refine (HI2.out _).mono ?_); rintro e w2 ⟨rfl, hw⟩; have HB := Lk.mk (show Below w.heap.size w w2 by rw [hw]; exact below_alloc HB.out _); have HX := Lk.mk (show w2.heap[w.heap.size]? = some (.cells #[.int .u8 2, .int .i64 p, .int .i64 g, .int .i64 f, .int .i64 d, .int .i64 s, .int .u8 v0, .int .u64 v1, .int .i64 v2, .int .i64 v3, .int .u8 o, .slice A n c] 46 (0, 0)) by rw [hw]; exact blk_alloc HX.out _); obtain ⟨⟨b0, b1, b2, b3, b4, b5⟩, b6, b7, b8, b9, b10, b11⟩ := line_cells HX.out; clear hw))
          all_goals go_ret
          all_goals refine ⟨ret_bool ?_, HB.out⟩
          all_goals rw [HZZ.out]
          all_goals clear HZZ HB HX HI0 HI1 HI2 HPL
          all_goals unfold restB
          all_goals dsimp only
          all_goals simp_all
          all_goals (first | done | omega | (intros; omega) | trivial)
      rcases hks with hks | hks
      · subst hks
        have HI0 := Lk.mk (show ∀ W : World, Calls Tryd.prog 31 #[.int .u8 3, .slice (some ⟨W.heap.size, 0, none⟩) 4 4] (W.alloc (.cells #[.int .u8 1, .int .u8 11, .int .u8 12, .int .u8 13] 5)) fun e w' => e = .returned (.bool false) ∧ w' = W.alloc (.cells #[.int .u8 1, .int .u8 11, .int .u8 12, .int .u8 13] 5) from fun W => rin_lit 3 [1, 11, 12, 13] false W _ rfl (by decide) (by decide))
        have HI1 := Lk.mk (show ∀ W : World, Calls Tryd.prog 31 #[.int .u8 3, .slice (some ⟨W.heap.size, 0, none⟩) 5 5] (W.alloc (.cells #[.int .u8 5, .int .u8 6, .int .u8 7, .int .u8 8, .int .u8 9] 5)) fun e w' => e = .returned (.bool false) ∧ w' = W.alloc (.cells #[.int .u8 5, .int .u8 6, .int .u8 7, .int .u8 8, .int .u8 9] 5) from fun W => rin_lit 3 [5, 6, 7, 8, 9] false W _ rfl (by decide) (by decide))
        have HI2 := Lk.mk (show ∀ W : World, Calls Tryd.prog 31 #[.int .u8 3, .slice (some ⟨W.heap.size, 0, none⟩) 4 4] (W.alloc (.cells #[.int .u8 5, .int .u8 6, .int .u8 7, .int .u8 8] 5)) fun e w' => e = .returned (.bool false) ∧ w' = W.alloc (.cells #[.int .u8 5, .int .u8 6, .int .u8 7, .int .u8 8] 5) from fun W => rin_lit 3 [5, 6, 7, 8] false W _ rfl (by decide) (by decide))
        by_cases hd : d = 0
        · have hd2 : d = 0 := hd
          clear hd
          subst hd2
          by_cases hn : n = 0
          · have hn2 : n = 0 := hn
            clear hn
            subst hn2
            go_wp2_with (first
              | (go_at_call 31; (with_reducible refine (HI0.out _).mono ?_); rintro e w2 ⟨rfl, hw⟩; have HB := Lk.mk (show Below w.heap.size w w2 by rw [hw]; exact below_alloc HB.out _); have HX := Lk.mk (show w2.heap[w.heap.size]? = some (.cells #[.int .u8 3, .int .i64 p, .int .i64 g, .int .i64 f, .int .i64 0, .int .i64 s, .int .u8 v0, .int .u64 v1, .int .i64 v2, .int .i64 v3, .int .u8 o, .slice A 0 c] 46 (0, 0)) by rw [hw]; exact blk_alloc HX.out _); obtain ⟨⟨b0, b1, b2, b3, b4, b5⟩, b6, b7, b8, b9, b10, b11⟩ := line_cells HX.out; clear hw)
              | (go_at_call 31; (with_reducible refine (HI1.out _).mono ?_); rintro e w2 ⟨rfl, hw⟩; have HB := Lk.mk (show Below w.heap.size w w2 by rw [hw]; exact below_alloc HB.out _); have HX := Lk.mk (show w2.heap[w.heap.size]? = some (.cells #[.int .u8 3, .int .i64 p, .int .i64 g, .int .i64 f, .int .i64 0, .int .i64 s, .int .u8 v0, .int .u64 v1, .int .i64 v2, .int .i64 v3, .int .u8 o, .slice A 0 c] 46 (0, 0)) by rw [hw]; exact blk_alloc HX.out _); obtain ⟨⟨b0, b1, b2, b3, b4, b5⟩, b6, b7, b8, b9, b10, b11⟩ := line_cells HX.out; clear hw)
              | (go_at_call 31; (with_reducible refine (HI2.out _).mono ?_); rintro e w2 ⟨rfl, hw⟩; have HB := Lk.mk (show Below w.heap.size w w2 by rw [hw]; exact below_alloc HB.out _); have HX := Lk.mk (show w2.heap[w.heap.size]? = some (.cells #[.int .u8 3, .int .i64 p, .int .i64 g, .int .i64 f, .int .i64 0, .int .i64 s, .int .u8 v0, .int .u64 v1, .int .i64 v2, .int .i64 v3, .int .u8 o, .slice A 0 c] 46 (0, 0)) by rw [hw]; exact blk_alloc HX.out _); obtain ⟨⟨b0, b1, b2, b3, b4, b5⟩, b6, b7, b8, b9, b10, b11⟩ := line_cells HX.out; clear hw))
            all_goals go_ret
            all_goals refine ⟨ret_bool ?_, HB.out⟩
            all_goals rw [HZZ.out]
            all_goals clear HZZ HB HX HI0 HI1 HI2 HPL
            all_goals unfold restB
            all_goals dsimp only
            all_goals simp_all
            all_goals (first | done | omega | (intros; omega) | trivial)
          · have hnb : (n == 0) = false := beq_false_of_ne hn
            have hnn : (n != 0) = true := by simp [hn]
            have hnp : 0 < n := by omega
            go_wp2_with (first
              | (go_at_call 31; (with_reducible refine (HI0.out _).mono ?_); rintro e w2 ⟨rfl, hw⟩; have HB := Lk.mk (show Below w.heap.size w w2 by rw [hw]; exact below_alloc HB.out _); have HX := Lk.mk (show w2.heap[w.heap.size]? = some (.cells #[.int .u8 3, .int .i64 p, .int .i64 g, .int .i64 f, .int .i64 0, .int .i64 s, .int .u8 v0, .int .u64 v1, .int .i64 v2, .int .i64 v3, .int .u8 o, .slice A n c] 46 (0, 0)) by rw [hw]; exact blk_alloc HX.out _); obtain ⟨⟨b0, b1, b2, b3, b4, b5⟩, b6, b7, b8, b9, b10, b11⟩ := line_cells HX.out; clear hw)
              | (go_at_call 31; (with_reducible refine (HI1.out _).mono ?_); rintro e w2 ⟨rfl, hw⟩; have HB := Lk.mk (show Below w.heap.size w w2 by rw [hw]; exact below_alloc HB.out _); have HX := Lk.mk (show w2.heap[w.heap.size]? = some (.cells #[.int .u8 3, .int .i64 p, .int .i64 g, .int .i64 f, .int .i64 0, .int .i64 s, .int .u8 v0, .int .u64 v1, .int .i64 v2, .int .i64 v3, .int .u8 o, .slice A n c] 46 (0, 0)) by rw [hw]; exact blk_alloc HX.out _); obtain ⟨⟨b0, b1, b2, b3, b4, b5⟩, b6, b7, b8, b9, b10, b11⟩ := line_cells HX.out; clear hw)
              | (go_at_call 31; (with_reducible refine (HI2.out _).mono ?_); rintro e w2 ⟨rfl, hw⟩; have HB := Lk.mk (show Below w.heap.size w w2 by rw [hw]; exact below_alloc HB.out _); have HX := Lk.mk (show w2.heap[w.heap.size]? = some (.cells #[.int .u8 3, .int .i64 p, .int .i64 g, .int .i64 f, .int .i64 0, .int .i64 s, .int .u8 v0, .int .u64 v1, .int .i64 v2, .int .i64 v3, .int .u8 o, .slice A n c] 46 (0, 0)) by rw [hw]; exact blk_alloc HX.out _); obtain ⟨⟨b0, b1, b2, b3, b4, b5⟩, b6, b7, b8, b9, b10, b11⟩ := line_cells HX.out; clear hw))
            all_goals go_ret
            all_goals refine ⟨ret_bool ?_, HB.out⟩
            all_goals rw [HZZ.out]
            all_goals clear HZZ HB HX HI0 HI1 HI2 HPL
            all_goals unfold restB
            all_goals dsimp only
            all_goals simp_all
            all_goals (first | done | omega | (intros; omega) | trivial)
        · have hdb : (d == 0) = false := beq_false_of_ne hd
          have hdn : (d != 0) = true := by simp [hd]
          go_wp2_with (first
            | (go_at_call 31; (with_reducible refine (HI0.out _).mono ?_); rintro e w2 ⟨rfl, hw⟩; have HB := Lk.mk (show Below w.heap.size w w2 by rw [hw]; exact below_alloc HB.out _); have HX := Lk.mk (show w2.heap[w.heap.size]? = some (.cells #[.int .u8 3, .int .i64 p, .int .i64 g, .int .i64 f, .int .i64 d, .int .i64 s, .int .u8 v0, .int .u64 v1, .int .i64 v2, .int .i64 v3, .int .u8 o, .slice A n c] 46 (0, 0)) by rw [hw]; exact blk_alloc HX.out _); obtain ⟨⟨b0, b1, b2, b3, b4, b5⟩, b6, b7, b8, b9, b10, b11⟩ := line_cells HX.out; clear hw)
            | (go_at_call 31; (with_reducible refine (HI1.out _).mono ?_); rintro e w2 ⟨rfl, hw⟩; have HB := Lk.mk (show Below w.heap.size w w2 by rw [hw]; exact below_alloc HB.out _); have HX := Lk.mk (show w2.heap[w.heap.size]? = some (.cells #[.int .u8 3, .int .i64 p, .int .i64 g, .int .i64 f, .int .i64 d, .int .i64 s, .int .u8 v0, .int .u64 v1, .int .i64 v2, .int .i64 v3, .int .u8 o, .slice A n c] 46 (0, 0)) by rw [hw]; exact blk_alloc HX.out _); obtain ⟨⟨b0, b1, b2, b3, b4, b5⟩, b6, b7, b8, b9, b10, b11⟩ := line_cells HX.out; clear hw)
            | (go_at_call 31; (with_reducible refine (HI2.out _).mono ?_); rintro e w2 ⟨rfl, hw⟩; have HB := Lk.mk (show Below w.heap.size w w2 by rw [hw]; exact below_alloc HB.out _); have HX := Lk.mk (show w2.heap[w.heap.size]? = some (.cells #[.int .u8 3, .int .i64 p, .int .i64 g, .int .i64 f, .int .i64 d, .int .i64 s, .int .u8 v0, .int .u64 v1, .int .i64 v2, .int .i64 v3, .int .u8 o, .slice A n c] 46 (0, 0)) by rw [hw]; exact blk_alloc HX.out _); obtain ⟨⟨b0, b1, b2, b3, b4, b5⟩, b6, b7, b8, b9, b10, b11⟩ := line_cells HX.out; clear hw))
          all_goals go_ret
          all_goals refine ⟨ret_bool ?_, HB.out⟩
          all_goals rw [HZZ.out]
          all_goals clear HZZ HB HX HI0 HI1 HI2 HPL
          all_goals unfold restB
          all_goals dsimp only
          all_goals simp_all
          all_goals (first | done | omega | (intros; omega) | trivial)
      rcases hks with hks | hks
      · subst hks
        have HI0 := Lk.mk (show ∀ W : World, Calls Tryd.prog 31 #[.int .u8 4, .slice (some ⟨W.heap.size, 0, none⟩) 4 4] (W.alloc (.cells #[.int .u8 1, .int .u8 11, .int .u8 12, .int .u8 13] 5)) fun e w' => e = .returned (.bool false) ∧ w' = W.alloc (.cells #[.int .u8 1, .int .u8 11, .int .u8 12, .int .u8 13] 5) from fun W => rin_lit 4 [1, 11, 12, 13] false W _ rfl (by decide) (by decide))
        have HI1 := Lk.mk (show ∀ W : World, Calls Tryd.prog 31 #[.int .u8 4, .slice (some ⟨W.heap.size, 0, none⟩) 5 5] (W.alloc (.cells #[.int .u8 5, .int .u8 6, .int .u8 7, .int .u8 8, .int .u8 9] 5)) fun e w' => e = .returned (.bool false) ∧ w' = W.alloc (.cells #[.int .u8 5, .int .u8 6, .int .u8 7, .int .u8 8, .int .u8 9] 5) from fun W => rin_lit 4 [5, 6, 7, 8, 9] false W _ rfl (by decide) (by decide))
        have HI2 := Lk.mk (show ∀ W : World, Calls Tryd.prog 31 #[.int .u8 4, .slice (some ⟨W.heap.size, 0, none⟩) 4 4] (W.alloc (.cells #[.int .u8 5, .int .u8 6, .int .u8 7, .int .u8 8] 5)) fun e w' => e = .returned (.bool false) ∧ w' = W.alloc (.cells #[.int .u8 5, .int .u8 6, .int .u8 7, .int .u8 8] 5) from fun W => rin_lit 4 [5, 6, 7, 8] false W _ rfl (by decide) (by decide))
        by_cases hf : f = 0
        · have hf2 : f = 0 := hf
          clear hf
          subst hf2
          by_cases hd : d = 0
          · have hd2 : d = 0 := hd
            clear hd
            subst hd2
            by_cases hn : n = 0
            · have hn2 : n = 0 := hn
              clear hn
              subst hn2
              go_wp2_with (first
                | (go_at_call 31; (with_reducible refine (HI0.out _).mono ?_); rintro e w2 ⟨rfl, hw⟩; have HB := Lk.mk (show Below w.heap.size w w2 by rw [hw]; exact below_alloc HB.out _); have HX := Lk.mk (show w2.heap[w.heap.size]? = some (.cells #[.int .u8 4, .int .i64 p, .int .i64 g, .int .i64 0, .int .i64 0, .int .i64 s, .int .u8 v0, .int .u64 v1, .int .i64 v2, .int .i64 v3, .int .u8 o, .slice A 0 c] 46 (0, 0)) by rw [hw]; exact blk_alloc HX.out _); obtain ⟨⟨b0, b1, b2, b3, b4, b5⟩, b6, b7, b8, b9, b10, b11⟩ := line_cells HX.out; clear hw)
                | (go_at_call 31; (with_reducible refine (HI1.out _).mono ?_); rintro e w2 ⟨rfl, hw⟩; have HB := Lk.mk (show Below w.heap.size w w2 by rw [hw]; exact below_alloc HB.out _); have HX := Lk.mk (show w2.heap[w.heap.size]? = some (.cells #[.int .u8 4, .int .i64 p, .int .i64 g, .int .i64 0, .int .i64 0, .int .i64 s, .int .u8 v0, .int .u64 v1, .int .i64 v2, .int .i64 v3, .int .u8 o, .slice A 0 c] 46 (0, 0)) by rw [hw]; exact blk_alloc HX.out _); obtain ⟨⟨b0, b1, b2, b3, b4, b5⟩, b6, b7, b8, b9, b10, b11⟩ := line_cells HX.out; clear hw)
                | (go_at_call 31; (with_reducible refine (HI2.out _).mono ?_); rintro e w2 ⟨rfl, hw⟩; have HB := Lk.mk (show Below w.heap.size w w2 by rw [hw]; exact below_alloc HB.out _); have HX := Lk.mk (show w2.heap[w.heap.size]? = some (.cells #[.int .u8 4, .int .i64 p, .int .i64 g, .int .i64 0, .int .i64 0, .int .i64 s, .int .u8 v0, .int .u64 v1, .int .i64 v2, .int .i64 v3, .int .u8 o, .slice A 0 c] 46 (0, 0)) by rw [hw]; exact blk_alloc HX.out _); obtain ⟨⟨b0, b1, b2, b3, b4, b5⟩, b6, b7, b8, b9, b10, b11⟩ := line_cells HX.out; clear hw))
              all_goals go_ret
              all_goals refine ⟨ret_bool ?_, HB.out⟩
              all_goals rw [HZZ.out]
              all_goals clear HZZ HB HX HI0 HI1 HI2 HPL
              all_goals unfold restB
              all_goals dsimp only
              all_goals simp_all
              all_goals (first | done | omega | (intros; omega) | trivial)
            · have hnb : (n == 0) = false := beq_false_of_ne hn
              have hnn : (n != 0) = true := by simp [hn]
              have hnp : 0 < n := by omega
              go_wp2_with (first
                | (go_at_call 31; (with_reducible refine (HI0.out _).mono ?_); rintro e w2 ⟨rfl, hw⟩; have HB := Lk.mk (show Below w.heap.size w w2 by rw [hw]; exact below_alloc HB.out _); have HX := Lk.mk (show w2.heap[w.heap.size]? = some (.cells #[.int .u8 4, .int .i64 p, .int .i64 g, .int .i64 0, .int .i64 0, .int .i64 s, .int .u8 v0, .int .u64 v1, .int .i64 v2, .int .i64 v3, .int .u8 o, .slice A n c] 46 (0, 0)) by rw [hw]; exact blk_alloc HX.out _); obtain ⟨⟨b0, b1, b2, b3, b4, b5⟩, b6, b7, b8, b9, b10, b11⟩ := line_cells HX.out; clear hw)
                | (go_at_call 31; (with_reducible refine (HI1.out _).mono ?_); rintro e w2 ⟨rfl, hw⟩; have HB := Lk.mk (show Below w.heap.size w w2 by rw [hw]; exact below_alloc HB.out _); have HX := Lk.mk (show w2.heap[w.heap.size]? = some (.cells #[.int .u8 4, .int .i64 p, .int .i64 g, .int .i64 0, .int .i64 0, .int .i64 s, .int .u8 v0, .int .u64 v1, .int .i64 v2, .int .i64 v3, .int .u8 o, .slice A n c] 46 (0, 0)) by rw [hw]; exact blk_alloc HX.out _); obtain ⟨⟨b0, b1, b2, b3, b4, b5⟩, b6, b7, b8, b9, b10, b11⟩ := line_cells HX.out; clear hw)
                | (go_at_call 31; (with_reducible refine (HI2.out _).mono ?_); rintro e w2 ⟨rfl, hw⟩; have HB := Lk.mk (show Below w.heap.size w w2 by rw [hw]; exact below_alloc HB.out _); have HX := Lk.mk (show w2.heap[w.heap.size]? = some (.cells #[.int .u8 4, .int .i64 p, .int .i64 g, .int .i64 0, .int .i64 0, .int .i64 s, .int .u8 v0, .int .u64 v1, .int .i64 v2, .int .i64 v3, .int .u8 o, .slice A n c] 46 (0, 0)) by rw [hw]; exact blk_alloc HX.out _); obtain ⟨⟨b0, b1, b2, b3, b4, b5⟩, b6, b7, b8, b9, b10, b11⟩ := line_cells HX.out; clear hw))
              all_goals go_ret
              all_goals refine ⟨ret_bool ?_, HB.out⟩
              all_goals rw [HZZ.out]
              all_goals clear HZZ HB HX HI0 HI1 HI2 HPL
              all_goals unfold restB
              all_goals dsimp only
              all_goals simp_all
              all_goals (first | done | omega | (intros; omega) | trivial)
          · have hdb : (d == 0) = false := beq_false_of_ne hd
            have hdn : (d != 0) = true := by simp [hd]
            go_wp2_with (first
              | (go_at_call 31; (with_reducible refine (HI0.out _).mono ?_); rintro e w2 ⟨rfl, hw⟩; have HB := Lk.mk (show Below w.heap.size w w2 by rw [hw]; exact below_alloc HB.out _); have HX := Lk.mk (show w2.heap[w.heap.size]? = some (.cells #[.int .u8 4, .int .i64 p, .int .i64 g, .int .i64 0, .int .i64 d, .int .i64 s, .int .u8 v0, .int .u64 v1, .int .i64 v2, .int .i64 v3, .int .u8 o, .slice A n c] 46 (0, 0)) by rw [hw]; exact blk_alloc HX.out _); obtain ⟨⟨b0, b1, b2, b3, b4, b5⟩, b6, b7, b8, b9, b10, b11⟩ := line_cells HX.out; clear hw)
              | (go_at_call 31; (with_reducible refine (HI1.out _).mono ?_); rintro e w2 ⟨rfl, hw⟩; have HB := Lk.mk (show Below w.heap.size w w2 by rw [hw]; exact below_alloc HB.out _); have HX := Lk.mk (show w2.heap[w.heap.size]? = some (.cells #[.int .u8 4, .int .i64 p, .int .i64 g, .int .i64 0, .int .i64 d, .int .i64 s, .int .u8 v0, .int .u64 v1, .int .i64 v2, .int .i64 v3, .int .u8 o, .slice A n c] 46 (0, 0)) by rw [hw]; exact blk_alloc HX.out _); obtain ⟨⟨b0, b1, b2, b3, b4, b5⟩, b6, b7, b8, b9, b10, b11⟩ := line_cells HX.out; clear hw)
              | (go_at_call 31; (with_reducible refine (HI2.out _).mono ?_); rintro e w2 ⟨rfl, hw⟩; have HB := Lk.mk (show Below w.heap.size w w2 by rw [hw]; exact below_alloc HB.out _); have HX := Lk.mk (show w2.heap[w.heap.size]? = some (.cells #[.int .u8 4, .int .i64 p, .int .i64 g, .int .i64 0, .int .i64 d, .int .i64 s, .int .u8 v0, .int .u64 v1, .int .i64 v2, .int .i64 v3, .int .u8 o, .slice A n c] 46 (0, 0)) by rw [hw]; exact blk_alloc HX.out _); obtain ⟨⟨b0, b1, b2, b3, b4, b5⟩, b6, b7, b8, b9, b10, b11⟩ := line_cells HX.out; clear hw))
            all_goals go_ret
            all_goals refine ⟨ret_bool ?_, HB.out⟩
            all_goals rw [HZZ.out]
            all_goals clear HZZ HB HX HI0 HI1 HI2 HPL
            all_goals unfold restB
            all_goals dsimp only
            all_goals simp_all
            all_goals (first | done | omega | (intros; omega) | trivial)
        · have hfb : (f == 0) = false := beq_false_of_ne hf
          have hfn : (f != 0) = true := by simp [hf]
          go_wp2_with (first
            | (go_at_call 31; (with_reducible refine (HI0.out _).mono ?_); rintro e w2 ⟨rfl, hw⟩; have HB := Lk.mk (show Below w.heap.size w w2 by rw [hw]; exact below_alloc HB.out _); have HX := Lk.mk (show w2.heap[w.heap.size]? = some (.cells #[.int .u8 4, .int .i64 p, .int .i64 g, .int .i64 f, .int .i64 d, .int .i64 s, .int .u8 v0, .int .u64 v1, .int .i64 v2, .int .i64 v3, .int .u8 o, .slice A n c] 46 (0, 0)) by rw [hw]; exact blk_alloc HX.out _); obtain ⟨⟨b0, b1, b2, b3, b4, b5⟩, b6, b7, b8, b9, b10, b11⟩ := line_cells HX.out; clear hw)
            | (go_at_call 31; (with_reducible refine (HI1.out _).mono ?_); rintro e w2 ⟨rfl, hw⟩; have HB := Lk.mk (show Below w.heap.size w w2 by rw [hw]; exact below_alloc HB.out _); have HX := Lk.mk (show w2.heap[w.heap.size]? = some (.cells #[.int .u8 4, .int .i64 p, .int .i64 g, .int .i64 f, .int .i64 d, .int .i64 s, .int .u8 v0, .int .u64 v1, .int .i64 v2, .int .i64 v3, .int .u8 o, .slice A n c] 46 (0, 0)) by rw [hw]; exact blk_alloc HX.out _); obtain ⟨⟨b0, b1, b2, b3, b4, b5⟩, b6, b7, b8, b9, b10, b11⟩ := line_cells HX.out; clear hw)
            | (go_at_call 31; (with_reducible refine (HI2.out _).mono ?_); rintro e w2 ⟨rfl, hw⟩; have HB := Lk.mk (show Below w.heap.size w w2 by rw [hw]; exact below_alloc HB.out _); have HX := Lk.mk (show w2.heap[w.heap.size]? = some (.cells #[.int .u8 4, .int .i64 p, .int .i64 g, .int .i64 f, .int .i64 d, .int .i64 s, .int .u8 v0, .int .u64 v1, .int .i64 v2, .int .i64 v3, .int .u8 o, .slice A n c] 46 (0, 0)) by rw [hw]; exact blk_alloc HX.out _); obtain ⟨⟨b0, b1, b2, b3, b4, b5⟩, b6, b7, b8, b9, b10, b11⟩ := line_cells HX.out; clear hw))
          all_goals go_ret
          all_goals refine ⟨ret_bool ?_, HB.out⟩
          all_goals rw [HZZ.out]
          all_goals clear HZZ HB HX HI0 HI1 HI2 HPL
          all_goals unfold restB
          all_goals dsimp only
          all_goals simp_all
          all_goals (first | done | omega | (intros; omega) | trivial)
      rcases hks with hks | hks
      · subst hks
        have HI0 := Lk.mk (show ∀ W : World, Calls Tryd.prog 31 #[.int .u8 5, .slice (some ⟨W.heap.size, 0, none⟩) 4 4] (W.alloc (.cells #[.int .u8 1, .int .u8 11, .int .u8 12, .int .u8 13] 5)) fun e w' => e = .returned (.bool false) ∧ w' = W.alloc (.cells #[.int .u8 1, .int .u8 11, .int .u8 12, .int .u8 13] 5) from fun W => rin_lit 5 [1, 11, 12, 13] false W _ rfl (by decide) (by decide))
        have HI1 := Lk.mk (show ∀ W : World, Calls Tryd.prog 31 #[.int .u8 5, .slice (some ⟨W.heap.size, 0, none⟩) 5 5] (W.alloc (.cells #[.int .u8 5, .int .u8 6, .int .u8 7, .int .u8 8, .int .u8 9] 5)) fun e w' => e = .returned (.bool true) ∧ w' = W.alloc (.cells #[.int .u8 5, .int .u8 6, .int .u8 7, .int .u8 8, .int .u8 9] 5) from fun W => rin_lit 5 [5, 6, 7, 8, 9] true W _ rfl (by decide) (by decide))
        have HI2 := Lk.mk (show ∀ W : World, Calls Tryd.prog 31 #[.int .u8 5, .slice (some ⟨W.heap.size, 0, none⟩) 4 4] (W.alloc (.cells #[.int .u8 5, .int .u8 6, .int .u8 7, .int .u8 8] 5)) fun e w' => e = .returned (.bool true) ∧ w' = W.alloc (.cells #[.int .u8 5, .int .u8 6, .int .u8 7, .int .u8 8] 5) from fun W => rin_lit 5 [5, 6, 7, 8] true W _ rfl (by decide) (by decide))
        by_cases hf : f = 0
        · have hf2 : f = 0 := hf
          clear hf
          subst hf2
          by_cases hn : n = 0
          · have hn2 : n = 0 := hn
            clear hn
            subst hn2
            go_wp2_with (first
              | (go_at_call 31; (with_reducible refine (HI0.out _).mono ?_); rintro e w2 ⟨rfl, hw⟩; have HB := Lk.mk (show Below w.heap.size w w2 by rw [hw]; exact below_alloc HB.out _); have HX := Lk.mk (show w2.heap[w.heap.size]? = some (.cells #[.int .u8 5, .int .i64 p, .int .i64 g, .int .i64 0, .int .i64 d, .int .i64 s, .int .u8 v0, .int .u64 v1, .int .i64 v2, .int .i64 v3, .int .u8 o, .slice A 0 c] 46 (0, 0)) by rw [hw]; exact blk_alloc HX.out _); obtain ⟨⟨b0, b1, b2, b3, b4, b5⟩, b6, b7, b8, b9, b10, b11⟩ := line_cells HX.out; clear hw)
              | (go_at_call 31; (with_reducible refine (HI1.out _).mono ?_); rintro e w2 ⟨rfl, hw⟩; have HB := Lk.mk (show Below w.heap.size w w2 by rw [hw]; exact below_alloc HB.out _); have HX := Lk.mk (show w2.heap[w.heap.size]? = some (.cells #[.int .u8 5, .int .i64 p, .int .i64 g, .int .i64 0, .int .i64 d, .int .i64 s, .int .u8 v0, .int .u64 v1, .int .i64 v2, .int .i64 v3, .int .u8 o, .slice A 0 c] 46 (0, 0)) by rw [hw]; exact blk_alloc HX.out _); obtain ⟨⟨b0, b1, b2, b3, b4, b5⟩, b6, b7, b8, b9, b10, b11⟩ := line_cells HX.out; clear hw)
              | (go_at_call 31; (with_reducible refine (HI2.out _).mono ?_); rintro e w2 ⟨rfl, hw⟩; have HB := Lk.mk (show Below w.heap.size w w2 by rw [hw]; exact below_alloc HB.out _); have HX := Lk.mk (show w2.heap[w.heap.size]? = some (.cells #[.int .u8 5, .int .i64 p, .int .i64 g, .int .i64 0, .int .i64 d, .int .i64 s, .int .u8 v0, .int .u64 v1, .int .i64 v2, .int .i64 v3, .int .u8 o, .slice A 0 c] 46 (0, 0)) by rw [hw]; exact blk_alloc HX.out _); obtain ⟨⟨b0, b1, b2, b3, b4, b5⟩, b6, b7, b8, b9, b10, b11⟩ := line_cells HX.out; clear hw))
            all_goals go_ret
            all_goals refine ⟨ret_bool ?_, HB.out⟩
            all_goals rw [HZZ.out]
            all_goals clear HZZ HB HX HI0 HI1 HI2 HPL
            all_goals unfold restB
            all_goals dsimp only
            all_goals simp_all
            all_goals (first | done | omega | (intros; omega) | trivial)
          · have hnb : (n == 0) = false := beq_false_of_ne hn
            have hnn : (n != 0) = true := by simp [hn]
            have hnp : 0 < n := by omega
            go_wp2_with (first
              | (go_at_call 31; (with_reducible refine (HI0.out _).mono ?_); rintro e w2 ⟨rfl, hw⟩; have HB := Lk.mk (show Below w.heap.size w w2 by rw [hw]; exact below_alloc HB.out _); have HX := Lk.mk (show w2.heap[w.heap.size]? = some (.cells #[.int .u8 5, .int .i64 p, .int .i64 g, .int .i64 0, .int .i64 d, .int .i64 s, .int .u8 v0, .int .u64 v1, .int .i64 v2, .int .i64 v3, .int .u8 o, .slice A n c] 46 (0, 0)) by rw [hw]; exact blk_alloc HX.out _); obtain ⟨⟨b0, b1, b2, b3, b4, b5⟩, b6, b7, b8, b9, b10, b11⟩ := line_cells HX.out; clear hw)
              | (go_at_call 31; (with_reducible refine (HI1.out _).mono ?_); rintro e w2 ⟨rfl, hw⟩; have HB := Lk.mk (show Below w.heap.size w w2 by rw [hw]; exact below_alloc HB.out _); have HX := Lk.mk (show w2.heap[w.heap.size]? = some (.cells #[.int .u8 5, .int .i64 p, .int .i64 g, .int .i64 0, .int .i64 d, .int .i64 s, .int .u8 v0, .int .u64 v1, .int .i64 v2, .int .i64 v3, .int .u8 o, .slice A n c] 46 (0, 0)) by rw [hw]; exact blk_alloc HX.out _); obtain ⟨⟨b0, b1, b2, b3, b4, b5⟩, b6, b7, b8, b9, b10, b11⟩ := line_cells HX.out; clear hw)
              | (go_at_call 31; (with_reducible refine (HI2.out _).mono ?_); rintro e w2 ⟨rfl, hw⟩; have HB := Lk.mk (show Below w.heap.size w w2 by rw [hw]; exact below_alloc HB.out _); have HX := Lk.mk (show w2.heap[w.heap.size]? = some (.cells #[.int .u8 5, .int .i64 p, .int .i64 g, .int .i64 0, .int .i64 d, .int .i64 s, .int .u8 v0, .int .u64 v1, .int .i64 v2, .int .i64 v3, .int .u8 o, .slice A n c] 46 (0, 0)) by rw [hw]; exact blk_alloc HX.out _); obtain ⟨⟨b0, b1, b2, b3, b4, b5⟩, b6, b7, b8, b9, b10, b11⟩ := line_cells HX.out; clear hw))
            all_goals go_ret
            all_goals refine ⟨ret_bool ?_, HB.out⟩
            all_goals rw [HZZ.out]
            all_goals clear HZZ HB HX HI0 HI1 HI2 HPL
            all_goals unfold restB
            all_goals dsimp only
            all_goals simp_all
            all_goals (first | done | omega | (intros; omega) | trivial)
        · have hfb : (f == 0) = false := beq_false_of_ne hf
          have hfn : (f != 0) = true := by simp [hf]
          go_wp2_with (first
            | (go_at_call 31; (with_reducible refine (HI0.out _).mono ?_); rintro e w2 ⟨rfl, hw⟩; have HB := Lk.mk (show Below w.heap.size w w2 by rw [hw]; exact below_alloc HB.out _); have HX := Lk.mk (show w2.heap[w.heap.size]? = some (.cells #[.int .u8 5, .int .i64 p, .int .i64 g, .int .i64 f, .int .i64 d, .int .i64 s, .int .u8 v0, .int .u64 v1, .int .i64 v2, .int .i64 v3, .int .u8 o, .slice A n c] 46 (0, 0)) by rw [hw]; exact blk_alloc HX.out _); obtain ⟨⟨b0, b1, b2, b3, b4, b5⟩, b6, b7, b8, b9, b10, b11⟩ := line_cells HX.out; clear hw)
            | (go_at_call 31; (with_reducible refine (HI1.out _).mono ?_); rintro e w2 ⟨rfl, hw⟩; have HB := Lk.mk (show Below w.heap.size w w2 by rw [hw]; exact below_alloc HB.out _); have HX := Lk.mk (show w2.heap[w.heap.size]? = some (.cells #[.int .u8 5, .int .i64 p, .int .i64 g, .int .i64 f, .int .i64 d, .int .i64 s, .int .u8 v0, .int .u64 v1, .int .i64 v2, .int .i64 v3, .int .u8 o, .slice A n c] 46 (0, 0)) by rw [hw]; exact blk_alloc HX.out _); obtain ⟨⟨b0, b1, b2, b3, b4, b5⟩, b6, b7, b8, b9, b10, b11⟩ := line_cells HX.out; clear hw)
            | (go_at_call 31; (with_reducible refine (HI2.out _).mono ?_); rintro e w2 ⟨rfl, hw⟩; have HB := Lk.mk (show Below w.heap.size w w2 by rw [hw]; exact below_alloc HB.out _); have HX := Lk.mk (show w2.heap[w.heap.size]? = some (.cells #[.int .u8 5, .int .i64 p, .int .i64 g, .int .i64 f, .int .i64 d, .int .i64 s, .int .u8 v0, .int .u64 v1, .int .i64 v2, .int .i64 v3, .int .u8 o, .slice A n c] 46 (0, 0)) by rw [hw]; exact blk_alloc HX.out _); obtain ⟨⟨b0, b1, b2, b3, b4, b5⟩, b6, b7, b8, b9, b10, b11⟩ := line_cells HX.out; clear hw))
          all_goals go_ret
          all_goals refine ⟨ret_bool ?_, HB.out⟩
          all_goals rw [HZZ.out]
          all_goals clear HZZ HB HX HI0 HI1 HI2 HPL
          all_goals unfold restB
          all_goals dsimp only
          all_goals simp_all
          all_goals (first | done | omega | (intros; omega) | trivial)
      rcases hks with hks | hks
      · subst hks
        have HI0 := Lk.mk (show ∀ W : World, Calls Tryd.prog 31 #[.int .u8 6, .slice (some ⟨W.heap.size, 0, none⟩) 4 4] (W.alloc (.cells #[.int .u8 1, .int .u8 11, .int .u8 12, .int .u8 13] 5)) fun e w' => e = .returned (.bool false) ∧ w' = W.alloc (.cells #[.int .u8 1, .int .u8 11, .int .u8 12, .int .u8 13] 5) from fun W => rin_lit 6 [1, 11, 12, 13] false W _ rfl (by decide) (by decide))
        have HI1 := Lk.mk (show ∀ W : World, Calls Tryd.prog 31 #[.int .u8 6, .slice (some ⟨W.heap.size, 0, none⟩) 5 5] (W.alloc (.cells #[.int .u8 5, .int .u8 6, .int .u8 7, .int .u8 8, .int .u8 9] 5)) fun e w' => e = .returned (.bool true) ∧ w' = W.alloc (.cells #[.int .u8 5, .int .u8 6, .int .u8 7, .int .u8 8, .int .u8 9] 5) from fun W => rin_lit 6 [5, 6, 7, 8, 9] true W _ rfl (by decide) (by decide))
        have HI2 := Lk.mk (show ∀ W : World, Calls Tryd.prog 31 #[.int .u8 6, .slice (some ⟨W.heap.size, 0, none⟩) 4 4] (W.alloc (.cells #[.int .u8 5, .int .u8 6, .int .u8 7, .int .u8 8] 5)) fun e w' => e = .returned (.bool true) ∧ w' = W.alloc (.cells #[.int .u8 5, .int .u8 6, .int .u8 7, .int .u8 8] 5) from fun W => rin_lit 6 [5, 6, 7, 8] true W _ rfl (by decide) (by decide))
        by_cases hf : f = 0
        · have hf2 : f = 0 := hf
          clear hf
          subst hf2
          by_cases hn : n = 0
          · have hn2 : n = 0 := hn
            clear hn
            subst hn2
            go_wp2_with (first
              | (go_at_call 31; (with_reducible refine (HI0.out _).mono ?_); rintro e w2 ⟨rfl, hw⟩; have HB := Lk.mk (show Below w.heap.size w w2 by rw [hw]; exact below_alloc HB.out _); have HX := Lk.mk (show w2.heap[w.heap.size]? = some (.cells #[.int .u8 6, .int .i64 p, .int .i64 g, .int .i64 0, .int .i64 d, .int .i64 s, .int .u8 v0, .int .u64 v1, .int .i64 v2, .int .i64 v3, .int .u8 o, .slice A 0 c] 46 (0, 0)) by rw [hw]; exact blk_alloc HX.out _); obtain ⟨⟨b0, b1, b2, b3, b4, b5⟩, b6, b7, b8, b9, b10, b11⟩ := line_cells HX.out; clear hw)
              | (go_at_call 31; (with_reducible refine (HI1.out _).mono ?_); rintro e w2 ⟨rfl, hw⟩; have HB := Lk.mk (show Below w.heap.size w w2 by rw [hw]; exact below_alloc HB.out _); have HX := Lk.mk (show w2.heap[w.heap.size]? = some (.cells #[.int .u8 6, .int .i64 p, .int .i64 g, .int .i64 0, .int .i64 d, .int .i64 s, .int .u8 v0, .int .u64 v1, .int .i64 v2, .int .i64 v3, .int .u8 o, .slice A 0 c] 46 (0, 0)) by rw [hw]; exact blk_alloc HX.out _); obtain ⟨⟨b0, b1, b2, b3, b4, b5⟩, b6, b7, b8, b9, b10, b11⟩ := line_cells HX.out; clear hw)
              | (go_at_call 31; (with_reducible refine (HI2.out _).mono ?_); rintro e w2 ⟨rfl, hw⟩; have HB := Lk.mk (show Below w.heap.size w w2 by rw [hw]; exact below_alloc HB.out _); have HX := Lk.mk (show w2.heap[w.heap.size]? = some (.cells #[.int .u8 6, .int .i64 p, .int .i64 g, .int .i64 0, .int .i64 d, .int .i64 s, .int .u8 v0, .int .u64 v1, .int .i64 v2, .int .i64 v3, .int .u8 o, .slice A 0 c] 46 (0, 0)) by rw [hw]; exact blk_alloc HX.out _); obtain ⟨⟨b0, b1, b2, b3, b4, b5⟩, b6, b7, b8, b9, b10, b11⟩ := line_cells HX.out; clear hw))
            all_goals go_ret
            all_goals refine ⟨ret_bool ?_, HB.out⟩
            all_goals rw [HZZ.out]
            all_goals clear HZZ HB HX HI0 HI1 HI2 HPL
            all_goals unfold restB
            all_goals dsimp only
            all_goals simp_all
            all_goals (first | done | omega | (intros; omega) | trivial)
          · have hnb : (n == 0) = false := beq_false_of_ne hn
            have hnn : (n != 0) = true := by simp [hn]
            have hnp : 0 < n := by omega
            go_wp2_with (first
              | (go_at_call 31; (with_reducible refine (HI0.out _).mono ?_); rintro e w2 ⟨rfl, hw⟩; have HB := Lk.mk (show Below w.heap.size w w2 by rw [hw]; exact below_alloc HB.out _); have HX := Lk.mk (show w2.heap[w.heap.size]? = some (.cells #[.int .u8 6, .int .i64 p, .int .i64 g, .int .i64 0, .int .i64 d, .int .i64 s, .int .u8 v0, .int .u64 v1, .int .i64 v2, .int .i64 v3, .int .u8 o, .slice A n c] 46 (0, 0)) by rw [hw]; exact blk_alloc HX.out _); obtain ⟨⟨b0, b1, b2, b3, b4, b5⟩, b6, b7, b8, b9, b10, b11⟩ := line_cells HX.out; clear hw)
              | (go_at_call 31; (with_reducible refine (HI1.out _).mono ?_); rintro e w2 ⟨rfl, hw⟩; have HB := Lk.mk (show Below w.heap.size w w2 by rw [hw]; exact below_alloc HB.out _); have HX := Lk.mk (show w2.heap[w.heap.size]? = some (.cells #[.int .u8 6, .int .i64 p, .int .i64 g, .int .i64 0, .int .i64 d, .int .i64 s, .int .u8 v0, .int .u64 v1, .int .i64 v2, .int .i64 v3, .int .u8 o, .slice A n c] 46 (0, 0)) by rw [hw]; exact blk_alloc HX.out _); obtain ⟨⟨b0, b1, b2, b3, b4, b5⟩, b6, b7, b8, b9, b10, b11⟩ := line_cells HX.out; clear hw)
              | (go_at_call 31; (with_reducible refine (HI2.out _).mono ?_); rintro e w2 ⟨rfl, hw⟩; have HB := Lk.mk (show Below w.heap.size w w2 by rw [hw]; exact below_alloc HB.out _); have HX := Lk.mk (show w2.heap[w.heap.size]? = some (.cells #[.int .u8 6, .int .i64 p, .int .i64 g, .int .i64 0, .int .i64 d, .int .i64 s, .int .u8 v0, .int .u64 v1, .int .i64 v2, .int .i64 v3, .int .u8 o, .slice A n c] 46 (0, 0)) by rw [hw]; exact blk_alloc HX.out _); obtain ⟨⟨b0, b1, b2, b3, b4, b5⟩, b6, b7, b8, b9, b10, b11⟩ := line_cells HX.out; clear hw))
            all_goals go_ret
            all_goals refine ⟨ret_bool ?_, HB.out⟩
            all_goals rw [HZZ.out]
            all_goals clear HZZ HB HX HI0 HI1 HI2 HPL
            all_goals unfold restB
            all_goals dsimp only
            all_goals simp_all
            all_goals (first | done | omega | (intros; omega) | trivial)
        · have hfb : (f == 0) = false := beq_false_of_ne hf
          have hfn : (f != 0) = true := by simp [hf]
          go_wp2_with (first
            | (go_at_call 31; (with_reducible refine (HI0.out _).mono ?_); rintro e w2 ⟨rfl, hw⟩; have HB := Lk.mk (show Below w.heap.size w w2 by rw [hw]; exact below_alloc HB.out _); have HX := Lk.mk (show w2.heap[w.heap.size]? = some (.cells #[.int .u8 6, .int .i64 p, .int .i64 g, .int .i64 f, .int .i64 d, .int .i64 s, .int .u8 v0, .int .u64 v1, .int .i64 v2, .int .i64 v3, .int .u8 o, .slice A n c] 46 (0, 0)) by rw [hw]; exact blk_alloc HX.out _); obtain ⟨⟨b0, b1, b2, b3, b4, b5⟩, b6, b7, b8, b9, b10, b11⟩ := line_cells HX.out; clear hw)
            | (go_at_call 31; (with_reducible refine (HI1.out _).mono ?_); rintro e w2 ⟨rfl, hw⟩; have HB := Lk.mk (show Below w.heap.size w w2 by rw [hw]; exact below_alloc HB.out _); have HX := Lk.mk (show w2.heap[w.heap.size]? = some (.cells #[.int .u8 6, .int .i64 p, .int .i64 g, .int .i64 f, .int .i64 d, .int .i64 s, .int .u8 v0, .int .u64 v1, .int .i64 v2, .int .i64 v3, .int .u8 o, .slice A n c] 46 (0, 0)) by rw [hw]; exact blk_alloc HX.out _); obtain ⟨⟨b0, b1, b2, b3, b4, b5⟩, b6, b7, b8, b9, b10, b11⟩ := line_cells HX.out; clear hw)
            | (go_at_call 31; (with_reducible refine (HI2.out _).mono ?_); rintro e w2 ⟨rfl, hw⟩; have HB := Lk.mk (show Below w.heap.size w w2 by rw [hw]; exact below_alloc HB.out _); have HX := Lk.mk (show w2.heap[w.heap.size]? = some (.cells #[.int .u8 6, .int .i64 p, .int .i64 g, .int .i64 f, .int .i64 d, .int .i64 s, .int .u8 v0, .int .u64 v1, .int .i64 v2, .int .i64 v3, .int .u8 o, .slice A n c] 46 (0, 0)) by rw [hw]; exact blk_alloc HX.out _); obtain ⟨⟨b0, b1, b2, b3, b4, b5⟩, b6, b7, b8, b9, b10, b11⟩ := line_cells HX.out; clear hw))
          all_goals go_ret
          all_goals refine ⟨ret_bool ?_, HB.out⟩
          all_goals rw [HZZ.out]
          all_goals clear HZZ HB HX HI0 HI1 HI2 HPL
          all_goals unfold restB
          all_goals dsimp only
          all_goals simp_all
          all_goals (first | done | omega | (intros; omega) | trivial)
      rcases hks with hks | hks
      · subst hks
        have HI0 := Lk.mk (show ∀ W : World, Calls Tryd.prog 31 #[.int .u8 7, .slice (some ⟨W.heap.size, 0, none⟩) 4 4] (W.alloc (.cells #[.int .u8 1, .int .u8 11, .int .u8 12, .int .u8 13] 5)) fun e w' => e = .returned (.bool false) ∧ w' = W.alloc (.cells #[.int .u8 1, .int .u8 11, .int .u8 12, .int .u8 13] 5) from fun W => rin_lit 7 [1, 11, 12, 13] false W _ rfl (by decide) (by decide))
        have HI1 := Lk.mk (show ∀ W : World, Calls Tryd.prog 31 #[.int .u8 7, .slice (some ⟨W.heap.size, 0, none⟩) 5 5] (W.alloc (.cells #[.int .u8 5, .int .u8 6, .int .u8 7, .int .u8 8, .int .u8 9] 5)) fun e w' => e = .returned (.bool true) ∧ w' = W.alloc (.cells #[.int .u8 5, .int .u8 6, .int .u8 7, .int .u8 8, .int .u8 9] 5) from fun W => rin_lit 7 [5, 6, 7, 8, 9] true W _ rfl (by decide) (by decide))
        have HI2 := Lk.mk (show ∀ W : World, Calls Tryd.prog 31 #[.int .u8 7, .slice (some ⟨W.heap.size, 0, none⟩) 4 4] (W.alloc (.cells #[.int .u8 5, .int .u8 6, .int .u8 7, .int .u8 8] 5)) fun e w' => e = .returned (.bool true) ∧ w' = W.alloc (.cells #[.int .u8 5, .int .u8 6, .int .u8 7, .int .u8 8] 5) from fun W => rin_lit 7 [5, 6, 7, 8] true W _ rfl (by decide) (by decide))
        by_cases hf : f = 0
        · have hf2 : f = 0 := hf
          clear hf
          subst hf2
          by_cases hn : n = 0
          · have hn2 : n = 0 := hn
            clear hn
            subst hn2
            go_wp2_with (first
              | (go_at_call 31; (with_reducible refine (HI0.out _).mono ?_); rintro e w2 ⟨rfl, hw⟩; have HB := Lk.mk (show Below w.heap.size w w2 by rw [hw]; exact below_alloc HB.out _); have HX := Lk.mk (show w2.heap[w.heap.size]? = some (.cells #[.int .u8 7, .int .i64 p, .int .i64 g, .int .i64 0, .int .i64 d, .int .i64 s, .int .u8 v0, .int .u64 v1, .int .i64 v2, .int .i64 v3, .int .u8 o, .slice A 0 c] 46 (0, 0)) by rw [hw]; exact blk_alloc HX.out _); obtain ⟨⟨b0, b1, b2, b3, b4, b5⟩, b6, b7, b8, b9, b10, b11⟩ := line_cells HX.out; clear hw)
              | (go_at_call 31; (with_reducible refine (HI1.out _).mono ?_); rintro e w2 ⟨rfl, hw⟩; have HB := Lk.mk (show Below w.heap.size w w2 by rw [hw]; exact below_alloc HB.out _); have HX := Lk.mk (show w2.heap[w.heap.size]? = some (.cells #[.int .u8 7, .int .i64 p, .int .i64 g, .int .i64 0, .int .i64 d, .int .i64 s, .int .u8 v0, .int .u64 v1, .int .i64 v2, .int .i64 v3, .int .u8 o, .slice A 0 c] 46 (0, 0)) by rw [hw]; exact blk_alloc HX.out _); obtain ⟨⟨b0, b1, b2, b3, b4, b5⟩, b6, b7, b8, b9, b10, b11⟩ := line_cells HX.out; clear hw)
              | (go_at_call 31; (with_reducible refine (HI2.out _).mono ?_); rintro e w2 ⟨rfl, hw⟩; have HB := Lk.mk (show Below w.heap.size w w2 by rw [hw]; exact below_alloc HB.out _); have HX := Lk.mk (show w2.heap[w.heap.size]? = some (.cells #[.int .u8 7, .int .i64 p, .int .i64 g, .int .i64 0, .int .i64 d, .int .i64 s, .int .u8 v0, .int .u64 v1, .int .i64 v2, .int .i64 v3, .int .u8 o, .slice A 0 c] 46 (0, 0)) by rw [hw]; exact blk_alloc HX.out _); obtain ⟨⟨b0, b1, b2, b3, b4, b5⟩, b6, b7, b8, b9, b10, b11⟩ := line_cells HX.out; clear hw))
            all_goals go_ret
            all_goals refine ⟨ret_bool ?_, HB.out⟩
            all_goals rw [HZZ.out]
            all_goals clear HZZ HB HX HI0 HI1 HI2 HPL
            all_goals unfold restB
            all_goals dsimp only
            all_goals simp_all
            all_goals (first | done | omega | (intros; omega) | trivial)
          · have hnb : (n == 0) = false := beq_false_of_ne hn
            have hnn : (n != 0) = true := by simp [hn]
            have hnp : 0 < n := by omega
            go_wp2_with (first
              | (go_at_call 31; (with_reducible refine (HI0.out _).mono ?_); rintro e w2 ⟨rfl, hw⟩; have HB := Lk.mk (show Below w.heap.size w w2 by rw [hw]; exact below_alloc HB.out _); have HX := Lk.mk (show w2.heap[w.heap.size]? = some (.cells #[.int .u8 7, .int .i64 p, .int .i64 g, .int .i64 0, .int .i64 d, .int .i64 s, .int .u8 v0, .int .u64 v1, .int .i64 v2, .int .i64 v3, .int .u8 o, .slice A n c] 46 (0, 0)) by rw [hw]; exact blk_alloc HX.out _); obtain ⟨⟨b0, b1, b2, b3, b4, b5⟩, b6, b7, b8, b9, b10, b11⟩ := line_cells HX.out; clear hw)
              | (go_at_call 31; (with_reducible refine (HI1.out _).mono ?_); rintro e w2 ⟨rfl, hw⟩; have HB := Lk.mk (show Below w.heap.size w w2 by rw [hw]; exact below_alloc HB.out _); have HX := Lk.mk (show w2.heap[w.heap.size]? = some (.cells #[.int .u8 7, .int .i64 p, .int .i64 g, .int .i64 0, .int .i64 d, .int .i64 s, .int .u8 v0, .int .u64 v1, .int .i64 v2, .int .i64 v3, .int .u8 o, .slice A n c] 46 (0, 0)) by rw [hw]; exact blk_alloc HX.out _); obtain ⟨⟨b0, b1, b2, b3, b4, b5⟩, b6, b7, b8, b9, b10, b11⟩ := line_cells HX.out; clear hw)
              | (go_at_call 31; (with_reducible refine (HI2.out _).mono ?_); rintro e w2 ⟨rfl, hw⟩; have HB := Lk.mk (show Below w.heap.size w w2 by rw [hw]; exact below_alloc HB.out _); have HX := Lk.mk (show w2.heap[w.heap.size]? = some (.cells #[.int .u8 7, .int .i64 p, .int .i64 g, .int .i64 0, .int .i64 d, .int .i64 s, .int .u8 v0, .int .u64 v1, .int .i64 v2, .int .i64 v3, .int .u8 o, .slice A n c] 46 (0, 0)) by rw [hw]; exact blk_alloc HX.out _); obtain ⟨⟨b0, b1, b2, b3, b4, b5⟩, b6, b7, b8, b9, b10, b11⟩ := line_cells HX.out; clear hw))
            all_goals go_ret
            all_goals refine ⟨ret_bool ?_, HB.out⟩
            all_goals rw [HZZ.out]
            all_goals clear HZZ HB HX HI0 HI1 HI2 HPL
            all_goals unfold restB
            all_goals dsimp only
            all_goals simp_all
            all_goals (first | done | omega | (intros; omega) | trivial)
        · have hfb : (f == 0) = false := beq_false_of_ne hf
          have hfn : (f != 0) = true := by simp [hf]
          go_wp2_with (first
            | (go_at_call 31; (with_reducible refine (HI0.out _).mono ?_); rintro e w2 ⟨rfl, hw⟩; have HB := Lk.mk (show Below w.heap.size w w2 by rw [hw]; exact below_alloc HB.out _); have HX := Lk.mk (show w2.heap[w.heap.size]? = some (.cells #[.int .u8 7, .int .i64 p, .int .i64 g, .int .i64 f, .int .i64 d, .int .i64 s, .int .u8 v0, .int .u64 v1, .int .i64 v2, .int .i64 v3, .int .u8 o, .slice A n c] 46 (0, 0)) by rw [hw]; exact blk_alloc HX.out _); obtain ⟨⟨b0, b1, b2, b3, b4, b5⟩, b6, b7, b8, b9, b10, b11⟩ := line_cells HX.out; clear hw)
            | (go_at_call 31; (with_reducible refine (HI1.out _).mono ?_); rintro e w2 ⟨rfl, hw⟩; have HB := Lk.mk (show Below w.heap.size w w2 by rw [hw]; exact below_alloc HB.out _); have HX := Lk.mk (show w2.heap[w.heap.size]? = some (.cells #[.int .u8 7, .int .i64 p, .int .i64 g, .int .i64 f, .int .i64 d, .int .i64 s, .int .u8 v0, .int .u64 v1, .int .i64 v2, .int .i64 v3, .int .u8 o, .slice A n c] 46 (0, 0)) by rw [hw]; exact blk_alloc HX.out _); obtain ⟨⟨b0, b1, b2, b3, b4, b5⟩, b6, b7, b8, b9, b10, b11⟩ := line_cells HX.out; clear hw)
            | (go_at_call 31; (with_reducible refine (HI2.out _).mono ?_); rintro e w2 ⟨rfl, hw⟩; have HB := Lk.mk (show Below w.heap.size w w2 by rw [hw]; exact below_alloc HB.out _); have HX := Lk.mk (show w2.heap[w.heap.size]? = some (.cells #[.int .u8 7, .int .i64 p, .int .i64 g, .int .i64 f, .int .i64 d, .int .i64 s, .int .u8 v0, .int .u64 v1, .int .i64 v2, .int .i64 v3, .int .u8 o, .slice A n c] 46 (0, 0)) by rw [hw]; exact blk_alloc HX.out _); obtain ⟨⟨b0, b1, b2, b3, b4, b5⟩, b6, b7, b8, b9, b10, b11⟩ := line_cells HX.out; clear hw))
          all_goals go_ret
          all_goals refine ⟨ret_bool ?_, HB.out⟩
          all_goals rw [HZZ.out]
          all_goals clear HZZ HB HX HI0 HI1 HI2 HPL
          all_goals unfold restB
          all_goals dsimp only
          all_goals simp_all
          all_goals (first | done | omega | (intros; omega) | trivial)
      rcases hks with hks | hks
      · subst hks
        have HI0 := Lk.mk (show ∀ W : World, Calls Tryd.prog 31 #[.int .u8 8, .slice (some ⟨W.heap.size, 0, none⟩) 4 4] (W.alloc (.cells #[.int .u8 1, .int .u8 11, .int .u8 12, .int .u8 13] 5)) fun e w' => e = .returned (.bool false) ∧ w' = W.alloc (.cells #[.int .u8 1, .int .u8 11, .int .u8 12, .int .u8 13] 5) from fun W => rin_lit 8 [1, 11, 12, 13] false W _ rfl (by decide) (by decide))
        have HI1 := Lk.mk (show ∀ W : World, Calls Tryd.prog 31 #[.int .u8 8, .slice (some ⟨W.heap.size, 0, none⟩) 5 5] (W.alloc (.cells #[.int .u8 5, .int .u8 6, .int .u8 7, .int .u8 8, .int .u8 9] 5)) fun e w' => e = .returned (.bool true) ∧ w' = W.alloc (.cells #[.int .u8 5, .int .u8 6, .int .u8 7, .int .u8 8, .int .u8 9] 5) from fun W => rin_lit 8 [5, 6, 7, 8, 9] true W _ rfl (by decide) (by decide))
        have HI2 := Lk.mk (show ∀ W : World, Calls Tryd.prog 31 #[.int .u8 8, .slice (some ⟨W.heap.size, 0, none⟩) 4 4] (W.alloc (.cells #[.int .u8 5, .int .u8 6, .int .u8 7, .int .u8 8] 5)) fun e w' => e = .returned (.bool true) ∧ w' = W.alloc (.cells #[.int .u8 5, .int .u8 6, .int .u8 7, .int .u8 8] 5) from fun W => rin_lit 8 [5, 6, 7, 8] true W _ rfl (by decide) (by decide))
        by_cases hf : f = 0
        · have hf2 : f = 0 := hf
          clear hf
          subst hf2
          by_cases hn : n = 0
          · have hn2 : n = 0 := hn
            clear hn
            subst hn2
            go_wp2_with (first
              | (go_at_call 31; (with_reducible refine (HI0.out _).mono ?_); rintro e w2 ⟨rfl, hw⟩; have HB := Lk.mk (show Below w.heap.size w w2 by rw [hw]; exact below_alloc HB.out _); have HX := Lk.mk (show w2.heap[w.heap.size]? = some (.cells #[.int .u8 8, .int .i64 p, .int .i64 g, .int .i64 0, .int .i64 d, .int .i64 s, .int .u8 v0, .int .u64 v1, .int .i64 v2, .int .i64 v3, .int .u8 o, .slice A 0 c] 46 (0, 0)) by rw [hw]; exact blk_alloc HX.out _); obtain ⟨⟨b0, b1, b2, b3, b4, b5⟩, b6, b7, b8, b9, b10, b11⟩ := line_cells HX.out; clear hw)
              | (go_at_call 31; (with_reducible refine (HI1.out _).mono ?_); rintro e w2 ⟨rfl, hw⟩; have HB := Lk.mk (show Below w.heap.size w w2 by rw [hw]; exact below_alloc HB.out _); have HX := Lk.mk (show w2.heap[w.heap.size]? = some (.cells #[.int .u8 8, .int .i64 p, .int .i64 g, .int .i64 0, .int .i64 d, .int .i64 s, .int .u8 v0, .int .u64 v1, .int .i64 v2, .int .i64 v3, .int .u8 o, .slice A 0 c] 46 (0, 0)) by rw [hw]; exact blk_alloc HX.out _); obtain ⟨⟨b0, b1, b2, b3, b4, b5⟩, b6, b7, b8, b9, b10, b11⟩ := line_cells HX.out; clear hw)
              | (go_at_call 31; (with_reducible refine (HI2.out _).mono ?_); rintro e w2 ⟨rfl, hw⟩; have HB := Lk.mk (show Below w.heap.size w w2 by rw [hw]; exact below_alloc HB.out _); have HX := Lk.mk (show w2.heap[w.heap.size]? = some (.cells #[.int .u8 8, .int .i64 p, .int .i64 g, .int .i64 0, .int .i64 d, .int .i64 s, .int .u8 v0, .int .u64 v1, .int .i64 v2, .int .i64 v3, .int .u8 o, .slice A 0 c] 46 (0, 0)) by rw [hw]; exact blk_alloc HX.out _); obtain ⟨⟨b0, b1, b2, b3, b4, b5⟩, b6, b7, b8, b9, b10, b11⟩ := line_cells HX.out; clear hw))
            all_goals go_ret
            all_goals refine ⟨ret_bool ?_, HB.out⟩
            all_goals rw [HZZ.out]
            all_goals clear HZZ HB HX HI0 HI1 HI2 HPL
            all_goals unfold restB
            all_goals dsimp only
            all_goals simp_all
            all_goals (first | done | omega | (intros; omega) | trivial)
          · have hnb : (n == 0) = false := beq_false_of_ne hn
            have hnn : (n != 0) = true := by simp [hn]
            have hnp : 0 < n := by omega
            go_wp2_with (first
              | (go_at_call 31; (with_reducible refine (HI0.out _).mono ?_); rintro e w2 ⟨rfl, hw⟩; have HB := Lk.mk (show Below w.heap.size w w2 by rw [hw]; exact below_alloc HB.out _); have HX := Lk.mk (show w2.heap[w.heap.size]? = some (.cells #[.int .u8 8, .int .i64 p, .int .i64 g, .int .i64 0, .int .i64 d, .int .i64 s, .int .u8 v0, .int .u64 v1, .int .i64 v2, .int .i64 v3, .int .u8 o, .slice A n c] 46 (0, 0)) by rw [hw]; exact blk_alloc HX.out _); obtain ⟨⟨b0, b1, b2, b3, b4, b5⟩, b6, b7, b8, b9, b10, b11⟩ := line_cells HX.out; clear hw)
              | (go_at_call 31; (with_reducible refine (HI1.out _).mono ?_); rintro e w2 ⟨rfl, hw⟩; have HB := Lk.mk (show Below w.heap.size w w2 by rw [hw]; exact below_alloc HB.out _); have HX := Lk.mk (show w2.heap[w.heap.size]? = some (.cells #[.int .u8 8, .int .i64 p, .int .i64 g, .int .i64 0, .int .i64 d, .int .i64 s, .int .u8 v0, .int .u64 v1, .int .i64 v2, .int .i64 v3, .int .u8 o, .slice A n c] 46 (0, 0)) by rw [hw]; exact blk_alloc HX.out _); obtain ⟨⟨b0, b1, b2, b3, b4, b5⟩, b6, b7, b8, b9, b10, b11⟩ := line_cells HX.out; clear hw)
              | (go_at_call 31; (with_reducible refine (HI2.out _).mono ?_); rintro e w2 ⟨rfl, hw⟩; have HB := Lk.mk (show Below w.heap.size w w2 by rw [hw]; exact below_alloc HB.out _); have HX := Lk.mk (show w2.heap[w.heap.size]? = some (.cells #[.int .u8 8, .int .i64 p, .int .i64 g, .int .i64 0, .int .i64 d, .int .i64 s, .int .u8 v0, .int .u64 v1, .int .i64 v2, .int .i64 v3, .int .u8 o, .slice A n c] 46 (0, 0)) by rw [hw]; exact blk_alloc HX.out _); obtain ⟨⟨b0, b1, b2, b3, b4, b5⟩, b6, b7, b8, b9, b10, b11⟩ := line_cells HX.out; clear hw))
            all_goals go_ret
            all_goals refine ⟨ret_bool ?_, HB.out⟩
            all_goals rw [HZZ.out]
            all_goals clear HZZ HB HX HI0 HI1 HI2 HPL
            all_goals unfold restB
            all_goals dsimp only
            all_goals simp_all
            all_goals (first | done | omega | (intros; omega) | trivial)
        · have hfb : (f == 0) = false := beq_false_of_ne hf
          have hfn : (f != 0) = true := by simp [hf]
          go_wp2_with (first
            | (go_at_call 31; (with_reducible refine (HI0.out _).mono ?_); rintro e w2 ⟨rfl, hw⟩; have HB := Lk.mk (show Below w.heap.size w w2 by rw [hw]; exact below_alloc HB.out _); have HX := Lk.mk (show w2.heap[w.heap.size]? = some (.cells #[.int .u8 8, .int .i64 p, .int .i64 g, .int .i64 f, .int .i64 d, .int .i64 s, .int .u8 v0, .int .u64 v1, .int .i64 v2, .int .i64 v3, .int .u8 o, .slice A n c] 46 (0, 0)) by rw [hw]; exact blk_alloc HX.out _); obtain ⟨⟨b0, b1, b2, b3, b4, b5⟩, b6, b7, b8, b9, b10, b11⟩ := line_cells HX.out; clear hw)
            | (go_at_call 31; (with_reducible refine (HI1.out _).mono ?_); rintro e w2 ⟨rfl, hw⟩; have HB := Lk.mk (show Below w.heap.size w w2 by rw [hw]; exact below_alloc HB.out _); have HX := Lk.mk (show w2.heap[w.heap.size]? = some (.cells #[.int .u8 8, .int .i64 p, .int .i64 g, .int .i64 f, .int .i64 d, .int .i64 s, .int .u8 v0, .int .u64 v1, .int .i64 v2, .int .i64 v3, .int .u8 o, .slice A n c] 46 (0, 0)) by rw [hw]; exact blk_alloc HX.out _); obtain ⟨⟨b0, b1, b2, b3, b4, b5⟩, b6, b7, b8, b9, b10, b11⟩ := line_cells HX.out; clear hw)
            | (go_at_call 31; (with_reducible refine (HI2.out _).mono ?_); rintro e w2 ⟨rfl, hw⟩; have HB := Lk.mk (show Below w.heap.size w w2 by rw [hw]; exact below_alloc HB.out _); have HX := Lk.mk (show w2.heap[w.heap.size]? = some (.cells #[.int .u8 8, .int .i64 p, .int .i64 g, .int .i64 f, .int .i64 d, .int .i64 s, .int .u8 v0, .int .u64 v1, .int .i64 v2, .int .i64 v3, .int .u8 o, .slice A n c] 46 (0, 0)) by rw [hw]; exact blk_alloc HX.out _); obtain ⟨⟨b0, b1, b2, b3, b4, b5⟩, b6, b7, b8, b9, b10, b11⟩ := line_cells HX.out; clear hw))
          all_goals go_ret
          all_goals refine ⟨ret_bool ?_, HB.out⟩
          all_goals rw [HZZ.out]
          all_goals clear HZZ HB HX HI0 HI1 HI2 HPL
          all_goals unfold restB
          all_goals dsimp only
          all_goals simp_all
          all_goals (first | done | omega | (intros; omega) | trivial)
      rcases hks with hks | hks
      · subst hks
        have HI0 := Lk.mk (show ∀ W : World, Calls Tryd.prog 31 #[.int .u8 9, .slice (some ⟨W.heap.size, 0, none⟩) 4 4] (W.alloc (.cells #[.int .u8 1, .int .u8 11, .int .u8 12, .int .u8 13] 5)) fun e w' => e = .returned (.bool false) ∧ w' = W.alloc (.cells #[.int .u8 1, .int .u8 11, .int .u8 12, .int .u8 13] 5) from fun W => rin_lit 9 [1, 11, 12, 13] false W _ rfl (by decide) (by decide))
        have HI1 := Lk.mk (show ∀ W : World, Calls Tryd.prog 31 #[.int .u8 9, .slice (some ⟨W.heap.size, 0, none⟩) 5 5] (W.alloc (.cells #[.int .u8 5, .int .u8 6, .int .u8 7, .int .u8 8, .int .u8 9] 5)) fun e w' => e = .returned (.bool true) ∧ w' = W.alloc (.cells #[.int .u8 5, .int .u8 6, .int .u8 7, .int .u8 8, .int .u8 9] 5) from fun W => rin_lit 9 [5, 6, 7, 8, 9] true W _ rfl (by decide) (by decide))
        have HI2 := Lk.mk (show ∀ W : World, Calls Tryd.prog 31 #[.int .u8 9, .slice (some ⟨W.heap.size, 0, none⟩) 4 4] (W.alloc (.cells #[.int .u8 5, .int .u8 6, .int .u8 7, .int .u8 8] 5)) fun e w' => e = .returned (.bool false) ∧ w' = W.alloc (.cells #[.int .u8 5, .int .u8 6, .int .u8 7, .int .u8 8] 5) from fun W => rin_lit 9 [5, 6, 7, 8] false W _ rfl (by decide) (by decide))
        by_cases hf : f = 0
        · have hf2 : f = 0 := hf
          clear hf
          subst hf2
          go_wp2_with (first
            | (go_at_call 31; (with_reducible refine (HI0.out _).mono ?_); rintro e w2 ⟨rfl, hw⟩; have HB := Lk.mk (show Below w.heap.size w w2 by rw [hw]; exact below_alloc HB.out _); have HX := Lk.mk (show w2.heap[w.heap.size]? = some (.cells #[.int .u8 9, .int .i64 p, .int .i64 g, .int .i64 0, .int .i64 d, .int .i64 s, .int .u8 v0, .int .u64 v1, .int .i64 v2, .int .i64 v3, .int .u8 o, .slice A n c] 46 (0, 0)) by rw [hw]; exact blk_alloc HX.out _); obtain ⟨⟨b0, b1, b2, b3, b4, b5⟩, b6, b7, b8, b9, b10, b11⟩ := line_cells HX.out; clear hw)
            | (go_at_call 31; (with_reducible refine (HI1.out _).mono ?_); rintro e w2 ⟨rfl, hw⟩; have HB := Lk.mk (show Below w.heap.size w w2 by rw [hw]; exact below_alloc HB.out _); have HX := Lk.mk (show w2.heap[w.heap.size]? = some (.cells #[.int .u8 9, .int .i64 p, .int .i64 g, .int .i64 0, .int .i64 d, .int .i64 s, .int .u8 v0, .int .u64 v1, .int .i64 v2, .int .i64 v3, .int .u8 o, .slice A n c] 46 (0, 0)) by rw [hw]; exact blk_alloc HX.out _); obtain ⟨⟨b0, b1, b2, b3, b4, b5⟩, b6, b7, b8, b9, b10, b11⟩ := line_cells HX.out; clear hw)
            | (go_at_call 31; (with_reducible refine (HI2.out _).mono ?_); rintro e w2 ⟨rfl, hw⟩; have HB := Lk.mk (show Below w.heap.size w w2 by rw [hw]; exact below_alloc HB.out _); have HX := Lk.mk (show w2.heap[w.heap.size]? = some (.cells #[.int .u8 9, .int .i64 p, .int .i64 g, .int .i64 0, .int .i64 d, .int .i64 s, .int .u8 v0, .int .u64 v1, .int .i64 v2, .int .i64 v3, .int .u8 o, .slice A n c] 46 (0, 0)) by rw [hw]; exact blk_alloc HX.out _); obtain ⟨⟨b0, b1, b2, b3, b4, b5⟩, b6, b7, b8, b9, b10, b11⟩ := line_cells HX.out; clear hw))
          all_goals go_ret
          all_goals refine ⟨ret_bool ?_, HB.out⟩
          all_goals rw [HZZ.out]
          all_goals clear HZZ HB HX HI0 HI1 HI2 HPL
          all_goals unfold restB
          all_goals dsimp only
          all_goals simp_all
          all_goals (first | done | omega | (intros; omega) | trivial)
        · have hfb : (f == 0) = false := beq_false_of_ne hf
          have hfn : (f != 0) = true := by simp [hf]
          go_wp2_with (first
            | (go_at_call 31; (with_reducible refine (HI0.out _).mono ?_); rintro e w2 ⟨rfl, hw⟩; have HB := Lk.mk (show Below w.heap.size w w2 by rw [hw]; exact below_alloc HB.out _); have HX := Lk.mk (show w2.heap[w.heap.size]? = some (.cells #[.int .u8 9, .int .i64 p, .int .i64 g, .int .i64 f, .int .i64 d, .int .i64 s, .int .u8 v0, .int .u64 v1, .int .i64 v2, .int .i64 v3, .int .u8 o, .slice A n c] 46 (0, 0)) by rw [hw]; exact blk_alloc HX.out _); obtain ⟨⟨b0, b1, b2, b3, b4, b5⟩, b6, b7, b8, b9, b10, b11⟩ := line_cells HX.out; clear hw)
            | (go_at_call 31; (with_reducible refine (HI1.out _).mono ?_); rintro e w2 ⟨rfl, hw⟩; have HB := Lk.mk (show Below w.heap.size w w2 by rw [hw]; exact below_alloc HB.out _); have HX := Lk.mk (show w2.heap[w.heap.size]? = some (.cells #[.int .u8 9, .int .i64 p, .int .i64 g, .int .i64 f, .int .i64 d, .int .i64 s, .int .u8 v0, .int .u64 v1, .int .i64 v2, .int .i64 v3, .int .u8 o, .slice A n c] 46 (0, 0)) by rw [hw]; exact blk_alloc HX.out _); obtain ⟨⟨b0, b1, b2, b3, b4, b5⟩, b6, b7, b8, b9, b10, b11⟩ := line_cells HX.out; clear hw)
            | (go_at_call 31; (with_reducible refine (HI2.out _).mono ?_); rintro e w2 ⟨rfl, hw⟩; have HB := Lk.mk (show Below w.heap.size w w2 by rw [hw]; exact below_alloc HB.out _); have HX := Lk.mk (show w2.heap[w.heap.size]? = some (.cells #[.int .u8 9, .int .i64 p, .int .i64 g, .int .i64 f, .int .i64 d, .int .i64 s, .int .u8 v0, .int .u64 v1, .int .i64 v2, .int .i64 v3, .int .u8 o, .slice A n c] 46 (0, 0)) by rw [hw]; exact blk_alloc HX.out _); obtain ⟨⟨b0, b1, b2, b3, b4, b5⟩, b6, b7, b8, b9, b10, b11⟩ := line_cells HX.out; clear hw))
          all_goals go_ret
          all_goals refine ⟨ret_bool ?_, HB.out⟩
          all_goals rw [HZZ.out]
          all_goals clear HZZ HB HX HI0 HI1 HI2 HPL
          all_goals unfold restB
          all_goals dsimp only
          all_goals simp_all
          all_goals (first | done | omega | (intros; omega) | trivial)
      rcases hks with hks | hks
      · subst hks
        have HI0 := Lk.mk (show ∀ W : World, Calls Tryd.prog 31 #[.int .u8 10, .slice (some ⟨W.heap.size, 0, none⟩) 4 4] (W.alloc (.cells #[.int .u8 1, .int .u8 11, .int .u8 12, .int .u8 13] 5)) fun e w' => e = .returned (.bool false) ∧ w' = W.alloc (.cells #[.int .u8 1, .int .u8 11, .int .u8 12, .int .u8 13] 5) from fun W => rin_lit 10 [1, 11, 12, 13] false W _ rfl (by decide) (by decide))
        have HI1 := Lk.mk (show ∀ W : World, Calls Tryd.prog 31 #[.int .u8 10, .slice (some ⟨W.heap.size, 0, none⟩) 5 5] (W.alloc (.cells #[.int .u8 5, .int .u8 6, .int .u8 7, .int .u8 8, .int .u8 9] 5)) fun e w' => e = .returned (.bool false) ∧ w' = W.alloc (.cells #[.int .u8 5, .int .u8 6, .int .u8 7, .int .u8 8, .int .u8 9] 5) from fun W => rin_lit 10 [5, 6, 7, 8, 9] false W _ rfl (by decide) (by decide))
        have HI2 := Lk.mk (show ∀ W : World, Calls Tryd.prog 31 #[.int .u8 10, .slice (some ⟨W.heap.size, 0, none⟩) 4 4] (W.alloc (.cells #[.int .u8 5, .int .u8 6, .int .u8 7, .int .u8 8] 5)) fun e w' => e = .returned (.bool false) ∧ w' = W.alloc (.cells #[.int .u8 5, .int .u8 6, .int .u8 7, .int .u8 8] 5) from fun W => rin_lit 10 [5, 6, 7, 8] false W _ rfl (by decide) (by decide))
        by_cases hf : f = 0
        · have hf2 : f = 0 := hf
          clear hf
          subst hf2
          by_cases hd : d = 0
          · have hd2 : d = 0 := hd
            clear hd
            subst hd2
            by_cases hn : n = 0
            · have hn2 : n = 0 := hn
              clear hn
              subst hn2
              go_wp2_with (first
                | (go_at_call 31; (with_reducible refine (HI0.out _).mono ?_); rintro e w2 ⟨rfl, hw⟩; have HB := Lk.mk (show Below w.heap.size w w2 by rw [hw]; exact below_alloc HB.out _); have HX := Lk.mk (show w2.heap[w.heap.size]? = some (.cells #[.int .u8 10, .int .i64 p, .int .i64 g, .int .i64 0, .int .i64 0, .int .i64 s, .int .u8 v0, .int .u64 v1, .int .i64 v2, .int .i64 v3, .int .u8 o, .slice A 0 c] 46 (0, 0)) by rw [hw]; exact blk_alloc HX.out _); obtain ⟨⟨b0, b1, b2, b3, b4, b5⟩, b6, b7, b8, b9, b10, b11⟩ := line_cells HX.out; clear hw)
                | (go_at_call 31; (with_reducible refine (HI1.out _).mono ?_); rintro e w2 ⟨rfl, hw⟩; have HB := Lk.mk (show Below w.heap.size w w2 by rw [hw]; exact below_alloc HB.out _); have HX := Lk.mk (show w2.heap[w.heap.size]? = some (.cells #[.int .u8 10, .int .i64 p, .int .i64 g, .int .i64 0, .int .i64 0, .int .i64 s, .int .u8 v0, .int .u64 v1, .int .i64 v2, .int .i64 v3, .int .u8 o, .slice A 0 c] 46 (0, 0)) by rw [hw]; exact blk_alloc HX.out _); obtain ⟨⟨b0, b1, b2, b3, b4, b5⟩, b6, b7, b8, b9, b10, b11⟩ := line_cells HX.out; clear hw)
                | (go_at_call 31; (with_reducible refine (HI2.out _).mono ?_); rintro e w2 ⟨rfl, hw⟩; have HB := Lk.mk (show Below w.heap.size w w2 by rw [hw]; exact below_alloc HB.out _); have HX := Lk.mk (show w2.heap[w.heap.size]? = some (.cells #[.int .u8 10, .int .i64 p, .int .i64 g, .int .i64 0, .int .i64 0, .int .i64 s, .int .u8 v0, .int .u64 v1, .int .i64 v2, .int .i64 v3, .int .u8 o, .slice A 0 c] 46 (0, 0)) by rw [hw]; exact blk_alloc HX.out _); obtain ⟨⟨b0, b1, b2, b3, b4, b5⟩, b6, b7, b8, b9, b10, b11⟩ := line_cells HX.out; clear hw))
              all_goals go_ret
              all_goals refine ⟨ret_bool ?_, HB.out⟩
              all_goals rw [HZZ.out]
              all_goals clear HZZ HB HX HI0 HI1 HI2 HPL
              all_goals unfold restB
              all_goals dsimp only
              all_goals simp_all
              all_goals (first | done | omega | (intros; omega) | trivial)
            · have hnb : (n == 0) = false := beq_false_of_ne hn
              have hnn : (n != 0) = true := by simp [hn]
              have hnp : 0 < n := by omega
              go_wp2_with (first
                | (go_at_call 31; (with_reducible refine (HI0.out _).mono ?_); rintro e w2 ⟨rfl, hw⟩; have HB := Lk.mk (show Below w.heap.size w w2 by rw [hw]; exact below_alloc HB.out _); have HX := Lk.mk (show w2.heap[w.heap.size]? = some (.cells #[.int .u8 10, .int .i64 p, .int .i64 g, .int .i64 0, .int .i64 0, .int .i64 s, .int .u8 v0, .int .u64 v1, .int .i64 v2, .int .i64 v3, .int .u8 o, .slice A n c] 46 (0, 0)) by rw [hw]; exact blk_alloc HX.out _); obtain ⟨⟨b0, b1, b2, b3, b4, b5⟩, b6, b7, b8, b9, b10, b11⟩ := line_cells HX.out; clear hw)
                | (go_at_call 31; (with_reducible refine (HI1.out _).mono ?_); rintro e w2 ⟨rfl, hw⟩; have HB := Lk.mk (show Below w.heap.size w w2 by rw [hw]; exact below_alloc HB.out _); have HX := Lk.mk (show w2.heap[w.heap.size]? = some (.cells #[.int .u8 10, .int .i64 p, .int .i64 g, .int .i64 0, .int .i64 0, .int .i64 s, .int .u8 v0, .int .u64 v1, .int .i64 v2, .int .i64 v3, .int .u8 o, .slice A n c] 46 (0, 0)) by rw [hw]; exact blk_alloc HX.out _); obtain ⟨⟨b0, b1, b2, b3, b4, b5⟩, b6, b7, b8, b9, b10, b11⟩ := line_cells HX.out; clear hw)
                | (go_at_call 31; (with_reducible refine (HI2.out _).mono ?_); rintro e w2 ⟨rfl, hw⟩; have HB := Lk.mk (show Below w.heap.size w w2 by rw [hw]; exact below_alloc HB.out _); have HX := Lk.mk (show w2.heap[w.heap.size]? = some (.cells #[.int .u8 10, .int .i64 p, .int .i64 g, .int .i64 0, .int .i64 0, .int .i64 s, .int .u8 v0, .int .u64 v1, .int .i64 v2, .int .i64 v3, .int .u8 o, .slice A n c] 46 (0, 0)) by rw [hw]; exact blk_alloc HX.out _); obtain ⟨⟨b0, b1, b2, b3, b4, b5⟩, b6, b7, b8, b9, b10, b11⟩ := line_cells HX.out; clear hw))
              all_goals go_ret
              all_goals refine ⟨ret_bool ?_, HB.out⟩
              all_goals rw [HZZ.out]
              all_goals clear HZZ HB HX HI0 HI1 HI2 HPL
              all_goals unfold restB
              all_goals dsimp only
              all_goals simp_all
              all_goals (first | done | omega | (intros; omega) | trivial)
          · have hdb : (d == 0) = false := beq_false_of_ne hd
            have hdn : (d != 0) = true := by simp [hd]
            go_wp2_with (first
              | (go_at_call 31; (with_reducible refine (HI0.out _).mono ?_); rintro e w2 ⟨rfl, hw⟩; have HB := Lk.mk (show Below w.heap.size w w2 by rw [hw]; exact below_alloc HB.out _); have HX := Lk.mk (show w2.heap[w.heap.size]? = some (.cells #[.int .u8 10, .int .i64 p, .int .i64 g, .int .i64 0, .int .i64 d, .int .i64 s, .int .u8 v0, .int .u64 v1, .int .i64 v2, .int .i64 v3, .int .u8 o, .slice A n c] 46 (0, 0)) by rw [hw]; exact blk_alloc HX.out _); obtain ⟨⟨b0, b1, b2, b3, b4, b5⟩, b6, b7, b8, b9, b10, b11⟩ := line_cells HX.out; clear hw)
              | (go_at_call 31; (with_reducible refine (HI1.out _).mono ?_); rintro e w2 ⟨rfl, hw⟩; have HB := Lk.mk (show Below w.heap.size w w2 by rw [hw]; exact below_alloc HB.out _); have HX := Lk.mk (show w2.heap[w.heap.size]? = some (.cells #[.int .u8 10, .int .i64 p, .int .i64 g, .int .i64 0, .int .i64 d, .int .i64 s, .int .u8 v0, .int .u64 v1, .int .i64 v2, .int .i64 v3, .int .u8 o, .slice A n c] 46 (0, 0)) by rw [hw]; exact blk_alloc HX.out _); obtain ⟨⟨b0, b1, b2, b3, b4, b5⟩, b6, b7, b8, b9, b10, b11⟩ := line_cells HX.out; clear hw)
              | (go_at_call 31; (with_reducible refine (HI2.out _).mono ?_); rintro e w2 ⟨rfl, hw⟩; have HB := Lk.mk (show Below w.heap.size w w2 by rw [hw]; exact below_alloc HB.out _); have HX := Lk.mk (show w2.heap[w.heap.size]? = some (.cells #[.int .u8 10, .int .i64 p, .int .i64 g, .int .i64 0, .int .i64 d, .int .i64 s, .int .u8 v0, .int .u64 v1, .int .i64 v2, .int .i64 v3, .int .u8 o, .slice A n c] 46 (0, 0)) by rw [hw]; exact blk_alloc HX.out _); obtain ⟨⟨b0, b1, b2, b3, b4, b5⟩, b6, b7, b8, b9, b10, b11⟩ := line_cells HX.out; clear hw))
            all_goals go_ret
            all_goals refine ⟨ret_bool ?_, HB.out⟩
            all_goals rw [HZZ.out]
            all_goals clear HZZ HB HX HI0 HI1 HI2 HPL
            all_goals unfold restB
            all_goals dsimp only
            all_goals simp_all
            all_goals (first | done | omega | (intros; omega) | trivial)
        · have hfb : (f == 0) = false := beq_false_of_ne hf
          have hfn : (f != 0) = true := by simp [hf]
          go_wp2_with (first
            | (go_at_call 31; (with_reducible refine (HI0.out _).mono ?_); rintro e w2 ⟨rfl, hw⟩; have HB := Lk.mk (show Below w.heap.size w w2 by rw [hw]; exact below_alloc HB.out _); have HX := Lk.mk (show w2.heap[w.heap.size]? = some (.cells #[.int .u8 10, .int .i64 p, .int .i64 g, .int .i64 f, .int .i64 d, .int .i64 s, .int .u8 v0, .int .u64 v1, .int .i64 v2, .int .i64 v3, .int .u8 o, .slice A n c] 46 (0, 0)) by rw [hw]; exact blk_alloc HX.out _); obtain ⟨⟨b0, b1, b2, b3, b4, b5⟩, b6, b7, b8, b9, b10, b11⟩ := line_cells HX.out; clear hw)
            | (go_at_call 31; (with_reducible refine (HI1.out _).mono ?_); rintro e w2 ⟨rfl, hw⟩; have HB := Lk.mk (show Below w.heap.size w w2 by rw [hw]; exact below_alloc HB.out _); have HX := Lk.mk (show w2.heap[w.heap.size]? = some (.cells #[.int .u8 10, .int .i64 p, .int .i64 g, .int .i64 f, .int .i64 d, .int .i64 s, .int .u8 v0, .int .u64 v1, .int .i64 v2, .int .i64 v3, .int .u8 o, .slice A n c] 46 (0, 0)) by rw [hw]; exact blk_alloc HX.out _); obtain ⟨⟨b0, b1, b2, b3, b4, b5⟩, b6, b7, b8, b9, b10, b11⟩ := line_cells HX.out; clear hw)
            | (go_at_call 31; (with_reducible refine (HI2.out _).mono ?_); rintro e w2 ⟨rfl, hw⟩; have HB := Lk.mk (show Below w.heap.size w w2 by rw [hw]; exact below_alloc HB.out _); have HX := Lk.mk (show w2.heap[w.heap.size]? = some (.cells #[.int .u8 10, .int .i64 p, .int .i64 g, .int .i64 f, .int .i64 d, .int .i64 s, .int .u8 v0, .int .u64 v1, .int .i64 v2, .int .i64 v3, .int .u8 o, .slice A n c] 46 (0, 0)) by rw [hw]; exact blk_alloc HX.out _); obtain ⟨⟨b0, b1, b2, b3, b4, b5⟩, b6, b7, b8, b9, b10, b11⟩ := line_cells HX.out; clear hw))
          all_goals go_ret
          all_goals refine ⟨ret_bool ?_, HB.out⟩
          all_goals rw [HZZ.out]
          all_goals clear HZZ HB HX HI0 HI1 HI2 HPL
          all_goals unfold restB
          all_goals dsimp only
          all_goals simp_all
          all_goals (first | done | omega | (intros; omega) | trivial)
      rcases hks with hks | hks
      · subst hks
        have HI0 := Lk.mk (show ∀ W : World, Calls Tryd.prog 31 #[.int .u8 11, .slice (some ⟨W.heap.size, 0, none⟩) 4 4] (W.alloc (.cells #[.int .u8 1, .int .u8 11, .int .u8 12, .int .u8 13] 5)) fun e w' => e = .returned (.bool true) ∧ w' = W.alloc (.cells #[.int .u8 1, .int .u8 11, .int .u8 12, .int .u8 13] 5) from fun W => rin_lit 11 [1, 11, 12, 13] true W _ rfl (by decide) (by decide))
        have HI1 := Lk.mk (show ∀ W : World, Calls Tryd.prog 31 #[.int .u8 11, .slice (some ⟨W.heap.size, 0, none⟩) 5 5] (W.alloc (.cells #[.int .u8 5, .int .u8 6, .int .u8 7, .int .u8 8, .int .u8 9] 5)) fun e w' => e = .returned (.bool false) ∧ w' = W.alloc (.cells #[.int .u8 5, .int .u8 6, .int .u8 7, .int .u8 8, .int .u8 9] 5) from fun W => rin_lit 11 [5, 6, 7, 8, 9] false W _ rfl (by decide) (by decide))
        have HI2 := Lk.mk (show ∀ W : World, Calls Tryd.prog 31 #[.int .u8 11, .slice (some ⟨W.heap.size, 0, none⟩) 4 4] (W.alloc (.cells #[.int .u8 5, .int .u8 6, .int .u8 7, .int .u8 8] 5)) fun e w' => e = .returned (.bool false) ∧ w' = W.alloc (.cells #[.int .u8 5, .int .u8 6, .int .u8 7, .int .u8 8] 5) from fun W => rin_lit 11 [5, 6, 7, 8] false W _ rfl (by decide) (by decide))
        by_cases hf : f = 0
        · have hf2 : f = 0 := hf
          clear hf
          subst hf2
          by_cases hd : d = 0
          · have hd2 : d = 0 := hd
            clear hd
            subst hd2
            by_cases hn : n = 0
            · have hn2 : n = 0 := hn
              clear hn
              subst hn2
              go_wp2_with (first
                | (go_at_call 31; (with_reducible refine (HI0.out _).mono ?_); rintro e w2 ⟨rfl, hw⟩; have HB := Lk.mk (show Below w.heap.size w w2 by rw [hw]; exact below_alloc HB.out _); have HX := Lk.mk (show w2.heap[w.heap.size]? = some (.cells #[.int .u8 11, .int .i64 p, .int .i64 g, .int .i64 0, .int .i64 0, .int .i64 s, .int .u8 v0, .int .u64 v1, .int .i64 v2, .int .i64 v3, .int .u8 o, .slice A 0 c] 46 (0, 0)) by rw [hw]; exact blk_alloc HX.out _); obtain ⟨⟨b0, b1, b2, b3, b4, b5⟩, b6, b7, b8, b9, b10, b11⟩ := line_cells HX.out; clear hw)
                | (go_at_call 31; (with_reducible refine (HI1.out _).mono ?_); rintro e w2 ⟨rfl, hw⟩; have HB := Lk.mk (show Below w.heap.size w w2 by rw [hw]; exact below_alloc HB.out _); have HX := Lk.mk (show w2.heap[w.heap.size]? = some (.cells #[.int .u8 11, .int .i64 p, .int .i64 g, .int .i64 0, .int .i64 0, .int .i64 s, .int .u8 v0, .int .u64 v1, .int .i64 v2, .int .i64 v3, .int .u8 o, .slice A 0 c] 46 (0, 0)) by rw [hw]; exact blk_alloc HX.out _); obtain ⟨⟨b0, b1, b2, b3, b4, b5⟩, b6, b7, b8, b9, b10, b11⟩ := line_cells HX.out; clear hw)
                | (go_at_call 31; (with_reducible refine (HI2.out _).mono ?_); rintro e w2 ⟨rfl, hw⟩; have HB := Lk.mk (show Below w.heap.size w w2 by rw [hw]; exact below_alloc HB.out _); have HX := Lk.mk (show w2.heap[w.heap.size]? = some (.cells #[.int .u8 11, .int .i64 p, .int .i64 g, .int .i64 0, .int .i64 0, .int .i64 s, .int .u8 v0, .int .u64 v1, .int .i64 v2, .int .i64 v3, .int .u8 o, .slice A 0 c] 46 (0, 0)) by rw [hw]; exact blk_alloc HX.out _); obtain ⟨⟨b0, b1, b2, b3, b4, b5⟩, b6, b7, b8, b9, b10, b11⟩ := line_cells HX.out; clear hw))
              all_goals go_ret
              all_goals refine ⟨ret_bool ?_, HB.out⟩
              all_goals rw [HZZ.out]
              all_goals clear HZZ HB HX HI0 HI1 HI2 HPL
              all_goals unfold restB
              all_goals dsimp only
              all_goals simp_all
              all_goals (first | done | omega | (intros; omega) | trivial)
            · have hnb : (n == 0) = false := beq_false_of_ne hn
              have hnn : (n != 0) = true := by simp [hn]
              have hnp : 0 < n := by omega
              go_wp2_with (first
                | (go_at_call 31; (with_reducible refine (HI0.out _).mono ?_); rintro e w2 ⟨rfl, hw⟩; have HB := Lk.mk (show Below w.heap.size w w2 by rw [hw]; exact below_alloc HB.out _); have HX := Lk.mk (show w2.heap[w.heap.size]? = some (.cells #[.int .u8 11, .int .i64 p, .int .i64 g, .int .i64 0, .int .i64 0, .int .i64 s, .int .u8 v0, .int .u64 v1, .int .i64 v2, .int .i64 v3, .int .u8 o, .slice A n c] 46 (0, 0)) by rw [hw]; exact blk_alloc HX.out _); obtain ⟨⟨b0, b1, b2, b3, b4, b5⟩, b6, b7, b8, b9, b10, b11⟩ := line_cells HX.out; clear hw)
                | (go_at_call 31; (with_reducible refine (HI1.out _).mono ?_); rintro e w2 ⟨rfl, hw⟩; have HB := Lk.mk (show Below w.heap.size w w2 by rw [hw]; exact below_alloc HB.out _); have HX := Lk.mk (show w2.heap[w.heap.size]? = some (.cells #[.int .u8 11, .int .i64 p, .int .i64 g, .int .i64 0, .int .i64 0, .int .i64 s, .int .u8 v0, .int .u64 v1, .int .i64 v2, .int .i64 v3, .int .u8 o, .slice A n c] 46 (0, 0)) by rw [hw]; exact blk_alloc HX.out _); obtain ⟨⟨b0, b1, b2, b3, b4, b5⟩, b6, b7, b8, b9, b10, b11⟩ := line_cells HX.out; clear hw)
                | (go_at_call 31; (with_reducible refine (HI2.out _).mono ?_); rintro e w2 ⟨rfl, hw⟩; have HB := Lk.mk (show Below w.heap.size w w2 by rw [hw]; exact below_alloc HB.out _); have HX := Lk.mk (show w2.heap[w.heap.size]? = some (.cells #[.int .u8 11, .int .i64 p, .int .i64 g, .int .i64 0, .int .i64 0, .int .i64 s, .int .u8 v0, .int .u64 v1, .int .i64 v2, .int .i64 v3, .int .u8 o, .slice A n c] 46 (0, 0)) by rw [hw]; exact blk_alloc HX.out _); obtain ⟨⟨b0, b1, b2, b3, b4, b5⟩, b6, b7, b8, b9, b10, b11⟩ := line_cells HX.out; clear hw))
              all_goals go_ret
              all_goals refine ⟨ret_bool ?_, HB.out⟩
              all_goals rw [HZZ.out]
              all_goals clear HZZ HB HX HI0 HI1 HI2 HPL
              all_goals unfold restB
              all_goals dsimp only
              all_goals simp_all
              all_goals (first | done | omega | (intros; omega) | trivial)
          · have hdb : (d == 0) = false := beq_false_of_ne hd
            have hdn : (d != 0) = true := by simp [hd]
            go_wp2_with (first
              | (go_at_call 31; (with_reducible refine (HI0.out _).mono ?_); rintro e w2 ⟨rfl, hw⟩; have HB := Lk.mk (show Below w.heap.size w w2 by rw [hw]; exact below_alloc HB.out _); have HX := Lk.mk (show w2.heap[w.heap.size]? = some (.cells #[.int .u8 11, .int .i64 p, .int .i64 g, .int .i64 0, .int .i64 d, .int .i64 s, .int .u8 v0, .int .u64 v1, .int .i64 v2, .int .i64 v3, .int .u8 o, .slice A n c] 46 (0, 0)) by rw [hw]; exact blk_alloc HX.out _); obtain ⟨⟨b0, b1, b2, b3, b4, b5⟩, b6, b7, b8, b9, b10, b11⟩ := line_cells HX.out; clear hw)
              | (go_at_call 31; (with_reducible refine (HI1.out _).mono ?_); rintro e w2 ⟨rfl, hw⟩; have HB := Lk.mk (show Below w.heap.size w w2 by rw [hw]; exact below_alloc HB.out _); have HX := Lk.mk (show w2.heap[w.heap.size]? = some (.cells #[.int .u8 11, .int .i64 p, .int .i64 g, .int .i64 0, .int .i64 d, .int .i64 s, .int .u8 v0, .int .u64 v1, .int .i64 v2, .int .i64 v3, .int .u8 o, .slice A n c] 46 (0, 0)) by rw [hw]; exact blk_alloc HX.out _); obtain ⟨⟨b0, b1, b2, b3, b4, b5⟩, b6, b7, b8, b9, b10, b11⟩ := line_cells HX.out; clear hw)
              | (go_at_call 31; (with_reducible refine (HI2.out _).mono ?_); rintro e w2 ⟨rfl, hw⟩; have HB := Lk.mk (show Below w.heap.size w w2 by rw [hw]; exact below_alloc HB.out _); have HX := Lk.mk (show w2.heap[w.heap.size]? = some (.cells #[.int .u8 11, .int .i64 p, .int .i64 g, .int .i64 0, .int .i64 d, .int .i64 s, .int .u8 v0, .int .u64 v1, .int .i64 v2, .int .i64 v3, .int .u8 o, .slice A n c] 46 (0, 0)) by rw [hw]; exact blk_alloc HX.out _); obtain ⟨⟨b0, b1, b2, b3, b4, b5⟩, b6, b7, b8, b9, b10, b11⟩ := line_cells HX.out; clear hw))
            all_goals go_ret
            all_goals refine ⟨ret_bool ?_, HB.out⟩
            all_goals rw [HZZ.out]
            all_goals clear HZZ HB HX HI0 HI1 HI2 HPL
            all_goals unfold restB
            all_goals dsimp only
            all_goals simp_all
            all_goals (first | done | omega | (intros; omega) | trivial)
        · have hfb : (f == 0) = false := beq_false_of_ne hf
          have hfn : (f != 0) = true := by simp [hf]
          go_wp2_with (first
            | (go_at_call 31; (with_reducible refine (HI0.out _).mono ?_); rintro e w2 ⟨rfl, hw⟩; have HB := Lk.mk (show Below w.heap.size w w2 by rw [hw]; exact below_alloc HB.out _); have HX := Lk.mk (show w2.heap[w.heap.size]? = some (.cells #[.int .u8 11, .int .i64 p, .int .i64 g, .int .i64 f, .int .i64 d, .int .i64 s, .int .u8 v0, .int .u64 v1, .int .i64 v2, .int .i64 v3, .int .u8 o, .slice A n c] 46 (0, 0)) by rw [hw]; exact blk_alloc HX.out _); obtain ⟨⟨b0, b1, b2, b3, b4, b5⟩, b6, b7, b8, b9, b10, b11⟩ := line_cells HX.out; clear hw)
            | (go_at_call 31; (with_reducible refine (HI1.out _).mono ?_); rintro e w2 ⟨rfl, hw⟩; have HB := Lk.mk (show Below w.heap.size w w2 by rw [hw]; exact below_alloc HB.out _); have HX := Lk.mk (show w2.heap[w.heap.size]? = some (.cells #[.int .u8 11, .int .i64 p, .int .i64 g, .int .i64 f, .int .i64 d, .int .i64 s, .int .u8 v0, .int .u64 v1, .int .i64 v2, .int .i64 v3, .int .u8 o, .slice A n c] 46 (0, 0)) by rw [hw]; exact blk_alloc HX.out _); obtain ⟨⟨b0, b1, b2, b3, b4, b5⟩, b6, b7, b8, b9, b10, b11⟩ := line_cells HX.out; clear hw)
            | (go_at_call 31; (with_reducible refine (HI2.out _).mono ?_); rintro e w2 ⟨rfl, hw⟩; have HB := Lk.mk (show Below w.heap.size w w2 by rw [hw]; exact below_alloc HB.out _); have HX := Lk.mk (show w2.heap[w.heap.size]? = some (.cells #[.int .u8 11, .int .i64 p, .int .i64 g, .int .i64 f, .int .i64 d, .int .i64 s, .int .u8 v0, .int .u64 v1, .int .i64 v2, .int .i64 v3, .int .u8 o, .slice A n c] 46 (0, 0)) by rw [hw]; exact blk_alloc HX.out _); obtain ⟨⟨b0, b1, b2, b3, b4, b5⟩, b6, b7, b8, b9, b10, b11⟩ := line_cells HX.out; clear hw))
          all_goals go_ret
          all_goals refine ⟨ret_bool ?_, HB.out⟩
          all_goals rw [HZZ.out]
          all_goals clear HZZ HB HX HI0 HI1 HI2 HPL
          all_goals unfold restB
          all_goals dsimp only
          all_goals simp_all
          all_goals (first | done | omega | (intros; omega) | trivial)
      rcases hks with hks | hks
      · subst hks
        have HI0 := Lk.mk (show ∀ W : World, Calls Tryd.prog 31 #[.int .u8 12, .slice (some ⟨W.heap.size, 0, none⟩) 4 4] (W.alloc (.cells #[.int .u8 1, .int .u8 11, .int .u8 12, .int .u8 13] 5)) fun e w' => e = .returned (.bool true) ∧ w' = W.alloc (.cells #[.int .u8 1, .int .u8 11, .int .u8 12, .int .u8 13] 5) from fun W => rin_lit 12 [1, 11, 12, 13] true W _ rfl (by decide) (by decide))
        have HI1 := Lk.mk (show ∀ W : World, Calls Tryd.prog 31 #[.int .u8 12, .slice (some ⟨W.heap.size, 0, none⟩) 5 5] (W.alloc (.cells #[.int .u8 5, .int .u8 6, .int .u8 7, .int .u8 8, .int .u8 9] 5)) fun e w' => e = .returned (.bool false) ∧ w' = W.alloc (.cells #[.int .u8 5, .int .u8 6, .int .u8 7, .int .u8 8, .int .u8 9] 5) from fun W => rin_lit 12 [5, 6, 7, 8, 9] false W _ rfl (by decide) (by decide))
        have HI2 := Lk.mk (show ∀ W : World, Calls Tryd.prog 31 #[.int .u8 12, .slice (some ⟨W.heap.size, 0, none⟩) 4 4] (W.alloc (.cells #[.int .u8 5, .int .u8 6, .int .u8 7, .int .u8 8] 5)) fun e w' => e = .returned (.bool false) ∧ w' = W.alloc (.cells #[.int .u8 5, .int .u8 6, .int .u8 7, .int .u8 8] 5) from fun W => rin_lit 12 [5, 6, 7, 8] false W _ rfl (by decide) (by decide))
        by_cases hf : f = 0
        · have hf2 : f = 0 := hf
          clear hf
          subst hf2
          by_cases hd : d = 0
          · have hd2 : d = 0 := hd
            clear hd
            subst hd2
            by_cases hn : n = 0
            · have hn2 : n = 0 := hn
              clear hn
              subst hn2
              go_wp2_with (first
                | (go_at_call 31; (with_reducible refine (HI0.out _).mono ?_); rintro e w2 ⟨rfl, hw⟩; have HB := Lk.mk (show Below w.heap.size w w2 by rw [hw]; exact below_alloc HB.out _); have HX := Lk.mk (show w2.heap[w.heap.size]? = some (.cells #[.int .u8 12, .int .i64 p, .int .i64 g, .int .i64 0, .int .i64 0, .int .i64 s, .int .u8 v0, .int .u64 v1, .int .i64 v2, .int .i64 v3, .int .u8 o, .slice A 0 c] 46 (0, 0)) by rw [hw]; exact blk_alloc HX.out _); obtain ⟨⟨b0, b1, b2, b3, b4, b5⟩, b6, b7, b8, b9, b10, b11⟩ := line_cells HX.out; clear hw)
                | (go_at_call 31; (with_reducible refine (HI1.out _).mono ?_); rintro e w2 ⟨rfl, hw⟩; have HB := Lk.mk (show Below w.heap.size w w2 by rw [hw]; exact below_alloc HB.out _); have HX := Lk.mk (show w2.heap[w.heap.size]? = some (.cells #[.int .u8 12, .int .i64 p, .int .i64 g, .int .i64 0, .int .i64 0, .int .i64 s, .int .u8 v0, .int .u64 v1, .int .i64 v2, .int .i64 v3, .int .u8 o, .slice A 0 c] 46 (0, 0)) by rw [hw]; exact blk_alloc HX.out _); obtain ⟨⟨b0, b1, b2, b3, b4, b5⟩, b6, b7, b8, b9, b10, b11⟩ := line_cells HX.out; clear hw)
                | (go_at_call 31; (with_reducible refine (HI2.out _).mono ?_); rintro e w2 ⟨rfl, hw⟩; have HB := Lk.mk (show Below w.heap.size w w2 by rw [hw]; exact below_alloc HB.out _); have HX := Lk.mk (show w2.heap[w.heap.size]? = some (.cells #[.int .u8 12, .int .i64 p, .int .i64 g, .int .i64 0, .int .i64 0, .int .i64 s, .int .u8 v0, .int .u64 v1, .int .i64 v2, .int .i64 v3, .int .u8 o, .slice A 0 c] 46 (0, 0)) by rw [hw]; exact blk_alloc HX.out _); obtain ⟨⟨b0, b1, b2, b3, b4, b5⟩, b6, b7, b8, b9, b10, b11⟩ := line_cells HX.out; clear hw))
              all_goals go_ret
              all_goals refine ⟨ret_bool ?_, HB.out⟩
              all_goals rw [HZZ.out]
              all_goals clear HZZ HB HX HI0 HI1 HI2 HPL
              all_goals unfold restB
              all_goals dsimp only
              all_goals simp_all
              all_goals (first | done | omega | (intros; omega) | trivial)
            · have hnb : (n == 0) = false := beq_false_of_ne hn
              have hnn : (n != 0) = true := by simp [hn]
              have hnp : 0 < n := by omega
              go_wp2_with (first
                | (go_at_call 31; (with_reducible refine (HI0.out _).mono ?_); rintro e w2 ⟨rfl, hw⟩; have HB := Lk.mk (show Below w.heap.size w w2 by rw [hw]; exact below_alloc HB.out _); have HX := Lk.mk (show w2.heap[w.heap.size]? = some (.cells #[.int .u8 12, .int .i64 p, .int .i64 g, .int .i64 0, .int .i64 0, .int .i64 s, .int .u8 v0, .int .u64 v1, .int .i64 v2, .int .i64 v3, .int .u8 o, .slice A n c] 46 (0, 0)) by rw [hw]; exact blk_alloc HX.out _); obtain ⟨⟨b0, b1, b2, b3, b4, b5⟩, b6, b7, b8, b9, b10, b11⟩ := line_cells HX.out; clear hw)
                | (go_at_call 31; (with_reducible refine (HI1.out _).mono ?_); rintro e w2 ⟨rfl, hw⟩; have HB := Lk.mk (show Below w.heap.size w w2 by rw [hw]; exact below_alloc HB.out _); have HX := Lk.mk (show w2.heap[w.heap.size]? = some (.cells #[.int .u8 12, .int .i64 p, .int .i64 g, .int .i64 0, .int .i64 0, .int .i64 s, .int .u8 v0, .int .u64 v1, .int .i64 v2, .int .i64 v3, .int .u8 o, .slice A n c] 46 (0, 0)) by rw [hw]; exact blk_alloc HX.out _); obtain ⟨⟨b0, b1, b2, b3, b4, b5⟩, b6, b7, b8, b9, b10, b11⟩ := line_cells HX.out; clear hw)
                | (go_at_call 31; (with_reducible refine (HI2.out _).mono ?_); rintro e w2 ⟨rfl, hw⟩; have HB := Lk.mk (show Below w.heap.size w w2 by rw [hw]; exact below_alloc HB.out _); have HX := Lk.mk (show w2.heap[w.heap.size]? = some (.cells #[.int .u8 12, .int .i64 p, .int .i64 g, .int .i64 0, .int .i64 0, .int .i64 s, .int .u8 v0, .int .u64 v1, .int .i64 v2, .int .i64 v3, .int .u8 o, .slice A n c] 46 (0, 0)) by rw [hw]; exact blk_alloc HX.out _); obtain ⟨⟨b0, b1, b2, b3, b4, b5⟩, b6, b7, b8, b9, b10, b11⟩ := line_cells HX.out; clear hw))
              all_goals go_ret
              all_goals refine ⟨ret_bool ?_, HB.out⟩
              all_goals rw [HZZ.out]
              all_goals clear HZZ HB HX HI0 HI1 HI2 HPL
              all_goals unfold restB
              all_goals dsimp only
              all_goals simp_all
              all_goals (first | done | omega | (intros; omega) | trivial)
          · have hdb : (d == 0) = false := beq_false_of_ne hd
            have hdn : (d != 0) = true := by simp [hd]
            go_wp2_with (first
              | (go_at_call 31; (with_reducible refine (HI0.out _).mono ?_); rintro e w2 ⟨rfl, hw⟩; have HB := Lk.mk (show Below w.heap.size w w2 by rw [hw]; exact below_alloc HB.out _); have HX := Lk.mk (show w2.heap[w.heap.size]? = some (.cells #[.int .u8 12, .int .i64 p, .int .i64 g, .int .i64 0, .int .i64 d, .int .i64 s, .int .u8 v0, .int .u64 v1, .int .i64 v2, .int .i64 v3, .int .u8 o, .slice A n c] 46 (0, 0)) by rw [hw]; exact blk_alloc HX.out _); obtain ⟨⟨b0, b1, b2, b3, b4, b5⟩, b6, b7, b8, b9, b10, b11⟩ := line_cells HX.out; clear hw)
              | (go_at_call 31; (with_reducible refine (HI1.out _).mono ?_); rintro e w2 ⟨rfl, hw⟩; have HB := Lk.mk (show Below w.heap.size w w2 by rw [hw]; exact below_alloc HB.out _); have HX := Lk.mk (show w2.heap[w.heap.size]? = some (.cells #[.int .u8 12, .int .i64 p, .int .i64 g, .int .i64 0, .int .i64 d, .int .i64 s, .int .u8 v0, .int .u64 v1, .int .i64 v2, .int .i64 v3, .int .u8 o, .slice A n c] 46 (0, 0)) by rw [hw]; exact blk_alloc HX.out _); obtain ⟨⟨b0, b1, b2, b3, b4, b5⟩, b6, b7, b8, b9, b10, b11⟩ := line_cells HX.out; clear hw)
              | (go_at_call 31; (with_reducible refine (HI2.out _).mono ?_); rintro e w2 ⟨rfl, hw⟩; have HB := Lk.mk (show Below w.heap.size w w2 by rw [hw]; exact below_alloc HB.out _); have HX := Lk.mk (show w2.heap[w.heap.size]? = some (.cells #[.int .u8 12, .int .i64 p, .int .i64 g, .int .i64 0, .int .i64 d, .int .i64 s, .int .u8 v0, .int .u64 v1, .int .i64 v2, .int .i64 v3, .int .u8 o, .slice A n c] 46 (0, 0)) by rw [hw]; exact blk_alloc HX.out _); obtain ⟨⟨b0, b1, b2, b3, b4, b5⟩, b6, b7, b8, b9, b10, b11⟩ := line_cells HX.out; clear hw))
            all_goals go_ret
            all_goals refine ⟨ret_bool ?_, HB.out⟩
            all_goals rw [HZZ.out]
            all_goals clear HZZ HB HX HI0 HI1 HI2 HPL
            all_goals unfold restB
            all_goals dsimp only
            all_goals simp_all
            all_goals (first | done | omega | (intros; omega) | trivial)
        · have hfb : (f == 0) = false := beq_false_of_ne hf
          have hfn : (f != 0) = true := by simp [hf]
          go_wp2_with (first
            | (go_at_call 31; (with_reducible refine (HI0.out _).mono ?_); rintro e w2 ⟨rfl, hw⟩; have HB := Lk.mk (show Below w.heap.size w w2 by rw [hw]; exact below_alloc HB.out _); have HX := Lk.mk (show w2.heap[w.heap.size]? = some (.cells #[.int .u8 12, .int .i64 p, .int .i64 g, .int .i64 f, .int .i64 d, .int .i64 s, .int .u8 v0, .int .u64 v1, .int .i64 v2, .int .i64 v3, .int .u8 o, .slice A n c] 46 (0, 0)) by rw [hw]; exact blk_alloc HX.out _); obtain ⟨⟨b0, b1, b2, b3, b4, b5⟩, b6, b7, b8, b9, b10, b11⟩ := line_cells HX.out; clear hw)
            | (go_at_call 31; (with_reducible refine (HI1.out _).mono ?_); rintro e w2 ⟨rfl, hw⟩; have HB := Lk.mk (show Below w.heap.size w w2 by rw [hw]; exact below_alloc HB.out _); have HX := Lk.mk (show w2.heap[w.heap.size]? = some (.cells #[.int .u8 12, .int .i64 p, .int .i64 g, .int .i64 f, .int .i64 d, .int .i64 s, .int .u8 v0, .int .u64 v1, .int .i64 v2, .int .i64 v3, .int .u8 o, .slice A n c] 46 (0, 0)) by rw [hw]; exact blk_alloc HX.out _); obtain ⟨⟨b0, b1, b2, b3, b4, b5⟩, b6, b7, b8, b9, b10, b11⟩ := line_cells HX.out; clear hw)
            | (go_at_call 31; (with_reducible refine (HI2.out _).mono ?_); rintro e w2 ⟨rfl, hw⟩; have HB := Lk.mk (show Below w.heap.size w w2 by rw [hw]; exact below_alloc HB.out _); have HX := Lk.mk (show w2.heap[w.heap.size]? = some (.cells #[.int .u8 12, .int .i64 p, .int .i64 g, .int .i64 f, .int .i64 d, .int .i64 s, .int .u8 v0, .int .u64 v1, .int .i64 v2, .int .i64 v3, .int .u8 o, .slice A n c] 46 (0, 0)) by rw [hw]; exact blk_alloc HX.out _); obtain ⟨⟨b0, b1, b2, b3, b4, b5⟩, b6, b7, b8, b9, b10, b11⟩ := line_cells HX.out; clear hw))
          all_goals go_ret
          all_goals refine ⟨ret_bool ?_, HB.out⟩
          all_goals rw [HZZ.out]
          all_goals clear HZZ HB HX HI0 HI1 HI2 HPL
          all_goals unfold restB
          all_goals dsimp only
          all_goals simp_all
          all_goals (first | done | omega | (intros; omega) | trivial)
      · subst hks
        have HI0 := Lk.mk (show ∀ W : World, Calls Tryd.prog 31 #[.int .u8 13, .slice (some ⟨W.heap.size, 0, none⟩) 4 4] (W.alloc (.cells #[.int .u8 1, .int .u8 11, .int .u8 12, .int .u8 13] 5)) fun e w' => e = .returned (.bool true) ∧ w' = W.alloc (.cells #[.int .u8 1, .int .u8 11, .int .u8 12, .int .u8 13] 5) from fun W => rin_lit 13 [1, 11, 12, 13] true W _ rfl (by decide) (by decide))
        have HI1 := Lk.mk (show ∀ W : World, Calls Tryd.prog 31 #[.int .u8 13, .slice (some ⟨W.heap.size, 0, none⟩) 5 5] (W.alloc (.cells #[.int .u8 5, .int .u8 6, .int .u8 7, .int .u8 8, .int .u8 9] 5)) fun e w' => e = .returned (.bool false) ∧ w' = W.alloc (.cells #[.int .u8 5, .int .u8 6, .int .u8 7, .int .u8 8, .int .u8 9] 5) from fun W => rin_lit 13 [5, 6, 7, 8, 9] false W _ rfl (by decide) (by decide))
        have HI2 := Lk.mk (show ∀ W : World, Calls Tryd.prog 31 #[.int .u8 13, .slice (some ⟨W.heap.size, 0, none⟩) 4 4] (W.alloc (.cells #[.int .u8 5, .int .u8 6, .int .u8 7, .int .u8 8] 5)) fun e w' => e = .returned (.bool false) ∧ w' = W.alloc (.cells #[.int .u8 5, .int .u8 6, .int .u8 7, .int .u8 8] 5) from fun W => rin_lit 13 [5, 6, 7, 8] false W _ rfl (by decide) (by decide))
        by_cases hf : f = 0
        · have hf2 : f = 0 := hf
          clear hf
          subst hf2
          by_cases hd : d = 0
          · have hd2 : d = 0 := hd
            clear hd
            subst hd2
            by_cases hn : n = 0
            · have hn2 : n = 0 := hn
              clear hn
              subst hn2
              go_wp2_with (first
                | (go_at_call 31; (with_reducible refine (HI0.out _).mono ?_); rintro e w2 ⟨rfl, hw⟩; have HB := Lk.mk (show Below w.heap.size w w2 by rw [hw]; exact below_alloc HB.out _); have HX := Lk.mk (show w2.heap[w.heap.size]? = some (.cells #[.int .u8 13, .int .i64 p, .int .i64 g, .int .i64 0, .int .i64 0, .int .i64 s, .int .u8 v0, .int .u64 v1, .int .i64 v2, .int .i64 v3, .int .u8 o, .slice A 0 c] 46 (0, 0)) by rw [hw]; exact blk_alloc HX.out _); obtain ⟨⟨b0, b1, b2, b3, b4, b5⟩, b6, b7, b8, b9, b10, b11⟩ := line_cells HX.out; clear hw)
                | (go_at_call 31; (with_reducible refine (HI1.out _).mono ?_); rintro e w2 ⟨rfl, hw⟩; have HB := Lk.mk (show Below w.heap.size w w2 by rw [hw]; exact below_alloc HB.out _); have HX := Lk.mk (show w2.heap[w.heap.size]? = some (.cells #[.int .u8 13, .int .i64 p, .int .i64 g, .int .i64 0, .int .i64 0, .int .i64 s, .int .u8 v0, .int .u64 v1, .int .i64 v2, .int .i64 v3, .int .u8 o, .slice A 0 c] 46 (0, 0)) by rw [hw]; exact blk_alloc HX.out _); obtain ⟨⟨b0, b1, b2, b3, b4, b5⟩, b6, b7, b8, b9, b10, b11⟩ := line_cells HX.out; clear hw)
                | (go_at_call 31; (with_reducible refine (HI2.out _).mono ?_); rintro e w2 ⟨rfl, hw⟩; have HB := Lk.mk (show Below w.heap.size w w2 by rw [hw]; exact below_alloc HB.out _); have HX := Lk.mk (show w2.heap[w.heap.size]? = some (.cells #[.int .u8 13, .int .i64 p, .int .i64 g, .int .i64 0, .int .i64 0, .int .i64 s, .int .u8 v0, .int .u64 v1, .int .i64 v2, .int .i64 v3, .int .u8 o, .slice A 0 c] 46 (0, 0)) by rw [hw]; exact blk_alloc HX.out _); obtain ⟨⟨b0, b1, b2, b3, b4, b5⟩, b6, b7, b8, b9, b10, b11⟩ := line_cells HX.out; clear hw))
              all_goals go_ret
              all_goals refine ⟨ret_bool ?_, HB.out⟩
              all_goals rw [HZZ.out]
              all_goals clear HZZ HB HX HI0 HI1 HI2 HPL
              all_goals unfold restB
              all_goals dsimp only
              all_goals simp_all
              all_goals (first | done | omega | (intros; omega) | trivial)
            · have hnb : (n == 0) = false := beq_false_of_ne hn
              have hnn : (n != 0) = true := by simp [hn]
              have hnp : 0 < n := by omega
              go_wp2_with (first
                | (go_at_call 31; (with_reducible refine (HI0.out _).mono ?_); rintro e w2 ⟨rfl, hw⟩; have HB := Lk.mk (show Below w.heap.size w w2 by rw [hw]; exact below_alloc HB.out _); have HX := Lk.mk (show w2.heap[w.heap.size]? = some (.cells #[.int .u8 13, .int .i64 p, .int .i64 g, .int .i64 0, .int .i64 0, .int .i64 s, .int .u8 v0, .int .u64 v1, .int .i64 v2, .int .i64 v3, .int .u8 o, .slice A n c] 46 (0, 0)) by rw [hw]; exact blk_alloc HX.out _); obtain ⟨⟨b0, b1, b2, b3, b4, b5⟩, b6, b7, b8, b9, b10, b11⟩ := line_cells HX.out; clear hw)
                | (go_at_call 31; (with_reducible refine (HI1.out _).mono ?_); rintro e w2 ⟨rfl, hw⟩; have HB := Lk.mk (show Below w.heap.size w w2 by rw [hw]; exact below_alloc HB.out _); have HX := Lk.mk (show w2.heap[w.heap.size]? = some (.cells #[.int .u8 13, .int .i64 p, .int .i64 g, .int .i64 0, .int .i64 0, .int .i64 s, .int .u8 v0, .int .u64 v1, .int .i64 v2, .int .i64 v3, .int .u8 o, .slice A n c] 46 (0, 0)) by rw [hw]; exact blk_alloc HX.out _); obtain ⟨⟨b0, b1, b2, b3, b4, b5⟩, b6, b7, b8, b9, b10, b11⟩ := line_cells HX.out; clear hw)
                | (go_at_call 31; (with_reducible refine (HI2.out _).mono ?_); rintro e w2 ⟨rfl, hw⟩; have HB := Lk.mk (show Below w.heap.size w w2 by rw [hw]; exact below_alloc HB.out _); have HX := Lk.mk (show w2.heap[w.heap.size]? = some (.cells #[.int .u8 13, .int .i64 p, .int .i64 g, .int .i64 0, .int .i64 0, .int .i64 s, .int .u8 v0, .int .u64 v1, .int .i64 v2, .int .i64 v3, .int .u8 o, .slice A n c] 46 (0, 0)) by rw [hw]; exact blk_alloc HX.out _); obtain ⟨⟨b0, b1, b2, b3, b4, b5⟩, b6, b7, b8, b9, b10, b11⟩ := line_cells HX.out; clear hw))
              all_goals go_ret
              all_goals refine ⟨ret_bool ?_, HB.out⟩
              all_goals rw [HZZ.out]
              all_goals clear HZZ HB HX HI0 HI1 HI2 HPL
              all_goals unfold restB
              all_goals dsimp only
              all_goals simp_all
              all_goals (first | done | omega | (intros; omega) | trivial)
          · have hdb : (d == 0) = false := beq_false_of_ne hd
            have hdn : (d != 0) = true := by simp [hd]
            go_wp2_with (first
              | (go_at_call 31; (with_reducible refine (HI0.out _).mono ?_); rintro e w2 ⟨rfl, hw⟩; have HB := Lk.mk (show Below w.heap.size w w2 by rw [hw]; exact below_alloc HB.out _); have HX := Lk.mk (show w2.heap[w.heap.size]? = some (.cells #[.int .u8 13, .int .i64 p, .int .i64 g, .int .i64 0, .int .i64 d, .int .i64 s, .int .u8 v0, .int .u64 v1, .int .i64 v2, .int .i64 v3, .int .u8 o, .slice A n c] 46 (0, 0)) by rw [hw]; exact blk_alloc HX.out _); obtain ⟨⟨b0, b1, b2, b3, b4, b5⟩, b6, b7, b8, b9, b10, b11⟩ := line_cells HX.out; clear hw)
              | (go_at_call 31; (with_reducible refine (HI1.out _).mono ?_); rintro e w2 ⟨rfl, hw⟩; have HB := Lk.mk (show Below w.heap.size w w2 by rw [hw]; exact below_alloc HB.out _); have HX := Lk.mk (show w2.heap[w.heap.size]? = some (.cells #[.int .u8 13, .int .i64 p, .int .i64 g, .int .i64 0, .int .i64 d, .int .i64 s, .int .u8 v0, .int .u64 v1, .int .i64 v2, .int .i64 v3, .int .u8 o, .slice A n c] 46 (0, 0)) by rw [hw]; exact blk_alloc HX.out _); obtain ⟨⟨b0, b1, b2, b3, b4, b5⟩, b6, b7, b8, b9, b10, b11⟩ := line_cells HX.out; clear hw)
              | (go_at_call 31; (with_reducible refine (HI2.out _).mono ?_); rintro e w2 ⟨rfl, hw⟩; have HB := Lk.mk (show Below w.heap.size w w2 by rw [hw]; exact below_alloc HB.out _); have HX := Lk.mk (show w2.heap[w.heap.size]? = some (.cells #[.int .u8 13, .int .i64 p, .int .i64 g, .int .i64 0, .int .i64 d, .int .i64 s, .int .u8 v0, .int .u64 v1, .int .i64 v2, .int .i64 v3, .int .u8 o, .slice A n c] 46 (0, 0)) by rw [hw]; exact blk_alloc HX.out _); obtain ⟨⟨b0, b1, b2, b3, b4, b5⟩, b6, b7, b8, b9, b10, b11⟩ := line_cells HX.out; clear hw))
            all_goals go_ret
            all_goals refine ⟨ret_bool ?_, HB.out⟩
            all_goals rw [HZZ.out]
            all_goals clear HZZ HB HX HI0 HI1 HI2 HPL
            all_goals unfold restB
            all_goals dsimp only
            all_goals simp_all
            all_goals (first | done | omega | (intros; omega) | trivial)
        · have hfb : (f == 0) = false := beq_false_of_ne hf
          have hfn : (f != 0) = true := by simp [hf]
          go_wp2_with (first
            | (go_at_call 31; (with_reducible refine (HI0.out _).mono ?_); rintro e w2 ⟨rfl, hw⟩; have HB := Lk.mk (show Below w.heap.size w w2 by rw [hw]; exact below_alloc HB.out _); have HX := Lk.mk (show w2.heap[w.heap.size]? = some (.cells #[.int .u8 13, .int .i64 p, .int .i64 g, .int .i64 f, .int .i64 d, .int .i64 s, .int .u8 v0, .int .u64 v1, .int .i64 v2, .int .i64 v3, .int .u8 o, .slice A n c] 46 (0, 0)) by rw [hw]; exact blk_alloc HX.out _); obtain ⟨⟨b0, b1, b2, b3, b4, b5⟩, b6, b7, b8, b9, b10, b11⟩ := line_cells HX.out; clear hw)
            | (go_at_call 31; (with_reducible refine (HI1.out _).mono ?_); rintro e w2 ⟨rfl, hw⟩; have HB := Lk.mk (show Below w.heap.size w w2 by rw [hw]; exact below_alloc HB.out _); have HX := Lk.mk (show w2.heap[w.heap.size]? = some (.cells #[.int .u8 13, .int .i64 p, .int .i64 g, .int .i64 f, .int .i64 d, .int .i64 s, .int .u8 v0, .int .u64 v1, .int .i64 v2, .int .i64 v3, .int .u8 o, .slice A n c] 46 (0, 0)) by rw [hw]; exact blk_alloc HX.out _); obtain ⟨⟨b0, b1, b2, b3, b4, b5⟩, b6, b7, b8, b9, b10, b11⟩ := line_cells HX.out; clear hw)
            | (go_at_call 31; (with_reducible refine (HI2.out _).mono ?_); rintro e w2 ⟨rfl, hw⟩; have HB := Lk.mk (show Below w.heap.size w w2 by rw [hw]; exact below_alloc HB.out _); have HX := Lk.mk (show w2.heap[w.heap.size]? = some (.cells #[.int .u8 13, .int .i64 p, .int .i64 g, .int .i64 f, .int .i64 d, .int .i64 s, .int .u8 v0, .int .u64 v1, .int .i64 v2, .int .i64 v3, .int .u8 o, .slice A n c] 46 (0, 0)) by rw [hw]; exact blk_alloc HX.out _); obtain ⟨⟨b0, b1, b2, b3, b4, b5⟩, b6, b7, b8, b9, b10, b11⟩ := line_cells HX.out; clear hw))
          all_goals go_ret
          all_goals refine ⟨ret_bool ?_, HB.out⟩
          all_goals rw [HZZ.out]
          all_goals clear HZZ HB HX HI0 HI1 HI2 HPL
          all_goals unfold restB
          all_goals dsimp only
          all_goals simp_all
          all_goals (first | done | omega | (intros; omega) | trivial)
end Go.Proofs.YtpnklpjjbpheeaaDoor
