/-
  The walk of script.step where the kind has a form; conditions: the row of slots reads as told.
-/
import Derived.Test.YtpnklpjjbpheeaaGreatDoorZd
import Derived.Lib.ConvBytes
import Derived.Laws.BytesArg
import Derived.Laws.Rows
namespace Go.Proofs.YtpnklpjjbpheeaaGreatDoor
open Go.RowKit Go.Proofs.YtpnklpjjbpheeaaGreatDoorW.PrintWords
open Go.Proofs.Fl Go.Proofs.YtpnklpjjbpheeaaGreatDoor.Flt

def Fld (y : Sx) : Prop := (0 ≤ y.x.g ∧ y.x.g ≤ 1000000) ∧ (0 ≤ y.x.f ∧ y.x.f ≤ 1000000) ∧ (0 ≤ y.x.d ∧ y.x.d ≤ 1000000) ∧ (0 ≤ y.x.s ∧ y.x.s ≤ 1000000)
theorem zero_fld {y : Sx} (c : UInt8) (h : Fld y) : Fld (zero y c) := by
  obtain ⟨h1, h2, h3, h4⟩ := h
  unfold zero
  repeat' split
  all_goals unfold Fld
  all_goals (try dsimp only)
  all_goals (refine ⟨?_, ?_, ?_, ?_⟩ <;> omega)
theorem fold_fld : ∀ (l : List UInt8) (y : Sx), Fld y → Fld (l.foldl zero y)
  | [], _, h => h
  | c :: l, y, h => fold_fld l (zero y c) (zero_fld c h)
theorem bare_fld {y : Sx} (F : ByteArray) (h : Fld y) : Fld (bareOf F y) := fold_fld _ _ h
theorem plain7_iff {x : St} (h : plain7 x = true) : (0 ≤ x.p ∧ x.p ≤ 1000000) ∧ (0 ≤ x.g ∧ x.g ≤ 1000000) ∧ (0 ≤ x.f ∧ x.f ≤ 1000000) ∧ (0 ≤ x.d ∧ x.d ≤ 1000000) ∧ (0 ≤ x.s ∧ x.s ≤ 1000000) ∧ (0 ≤ x.v2 ∧ x.v2 ≤ 1000000) ∧ (0 ≤ x.v3 ∧ x.v3 ≤ 1000000) := by
  unfold plain7 plN at h
  simp at h
  omega
/-- seven numbers in a row of their own -/
theorem plain7_any (x : St) (W : World) (k : Nat) (hk : W.heap.size = k) : Calls Tryz.prog 32 #[.slice (some ⟨k, 0, none⟩) 7 7] (W.alloc (.cells #[.int .i64 x.p, .int .i64 x.g, .int .i64 x.f, .int .i64 x.d, .int .i64 x.s, .int .i64 x.v2, .int .i64 x.v3] 3)) fun e w' => e = .returned (.bool (plain7 x)) ∧ Below W.heap.size W w' := by
  subst hk
  have h := splain_any (some ⟨W.heap.size, 0, none⟩) 7 [x.p, x.g, x.f, x.d, x.s, x.v2, x.v3] (W.alloc (.cells #[.int .i64 x.p, .int .i64 x.g, .int .i64 x.f, .int .i64 x.d, .int .i64 x.s, .int .i64 x.v2, .int .i64 x.v3] 3)) (own_reads' (own_lit W _ 3 .i64 [x.p, x.g, x.f, x.d, x.s, x.v2, x.v3] (Nat.le_refl _) (by simp)))
  exact h.mono fun e w' ⟨he, hb⟩ => ⟨he, below_then (below_alloc (Below.refl _ _) _) (by simp) hb⟩
theorem may1_any (v : Sl.Vl) (hv : VlIn v) (W : World) (k : Nat) (hk : W.heap.size = k) : Calls Tryz.prog 33 #[.slice (some ⟨k, 0, none⟩) 1 1] (W.alloc (.cells #[.int .u8 v.1, .int .u64 v.2.1, .int .i64 v.2.2.1, .int .i64 v.2.2.2] 46)) fun e w' => e = .returned (.bool (Sl.mayVs [v])) ∧ Below W.heap.size W w' := by
  subst hk
  have hn := blk_new W (.cells #[.int .u8 v.1, .int .u64 v.2.1, .int .i64 v.2.2.1, .int .i64 v.2.2.2] 46)
  have hC : kVl.C (W.alloc (.cells #[.int .u8 v.1, .int .u64 v.2.1, .int .i64 v.2.2.1, .int .i64 v.2.2.2] 46)) (some ⟨W.heap.size, 0, none⟩) ([v] : List Sl.Vl).length [v] :=
    kVl_one (by simp [Addr.add]) (by simp [Addr.add]) (by simp [Addr.add]) (by simp [Addr.add])
  have h := smayAll_any (some ⟨W.heap.size, 0, none⟩) 1 [v] _ hC (fun y hy => by rw [List.mem_singleton.1 hy]; exact hv)
  exact h.mono fun e w' ⟨he, hb⟩ => ⟨he, below_then (below_alloc (Below.refl _ _) _) (by simp) hb⟩
set_option maxRecDepth 100000 in
set_option maxHeartbeats 8000000 in
theorem step_yes (x : St) (A : Option Addr) (c : Nat) (l : List Int) (w : World) (hx : StIn x) (hr : ReadsInt w .i64 A l.length l) (ho : okK x.k = true) :
    Calls Tryz.prog 17 #[.agg (stCells x A l.length c)] w fun e w' => e = .returned (.bool (stepB x A l c)) ∧ Below w.heap.size w w' := by
  have HB0 := Lk.mk (below_alloc (Below.refl w.heap.size w) (.cells (stCells x A l.length c) 49))
  have HO := Lk.mk (fun W => sof_any x A l.length c W hx.k)
  rw [ho] at HO
  have HBX := Lk.mk (show BoxS (w.alloc (.cells (stCells x A l.length c) 49)) w.heap.size ⟨x, A, l.length, c⟩ from blk_new w _)
  have HP7 := Lk.mk (fun W k hk => plain7_any x W k hk)
  have HPS := Lk.mk (fun W (hb : Below w.heap.size w W) => splain_any A c l W (hr.below hb))
  have HMY := Lk.mk (fun W k hk => may1_any x.v hx.v W k hk)
  have HBA := Lk.mk (fun W => bare_any ⟨x, A, l.length, c⟩ W (wK x.k) (fK x.k) (fK_ascii x.k))
  have HFL := Lk.mk (show plain7 x = true → Fld (bareOf (fK x.k) ⟨x, A, l.length, c⟩) from fun h => by
    obtain ⟨_, h1, h2, h3, h4, _⟩ := plain7_iff h
    exact bare_fld _ ⟨h1, h2, h3, h4⟩)
  have HST := Lk.mk (show stepB x A l c = (true && plain7 x && !(l.any plN) && Sl.mayVs [x.v] && bareB (bareOf (fK x.k) ⟨x, A, l.length, c⟩) && lastB x l.length) by unfold stepB; rw [ho])
  generalize stepB x A l c = Z at *
  generalize bareOf (fK x.k) ⟨x, A, l.length, c⟩ = R at *
  generalize wK x.k = F0 at *
  generalize fK x.k = F1 at *
  clear ho hx hr
  cases h7 : plain7 x with
  | false =>
    rw [h7] at HP7
    have HZ := Lk.mk (show Z = false by rw [HST.out, h7]; rfl)
    clear HST HFL HBA HMY HPS h7
    obtain ⟨k0, p, g, f, d, s, v0, v1, v2, v3, o⟩ := x
    unfold stCells at *
    dsimp only at *
    go_enter Tryz.func17, Tryz.ntmps17
    go_wp2_with (first
      | (go_at_call 31; (with_reducible refine (HO.out _).mono ?_); rintro e w1 ⟨rfl, hb⟩; have HB := Lk.mk (below_alloc (below_then HB0.out HB0.out.size hb) (.cells #[.string F0, .string F1] 73)); have HX := Lk.mk (show BoxS (w1.alloc (.cells #[.string F0, .string F1] 73)) w.heap.size _ from blk_alloc (blk_below HBX.out hb) _); obtain ⟨⟨b0, b1, b2, b3, b4, b5⟩, b6, b7, b8, b9, b10, b11⟩ := box_cells HX.out; clear hb)
      | (go_at_call 32; (with_reducible refine (HP7.out _ _ (by simp)).mono ?_); rintro e w2 ⟨rfl, hb⟩; have HB2 := Lk.mk (below_then HB.out HB.out.size hb); clear hb))
    go_ret
    exact ⟨by rw [HZ.out]; rfl, HB2.out⟩
  | true =>
    rw [h7] at HP7
    have HFL := Lk.mk (HFL.out h7)
    cases hs : l.any plN with
    | true =>
      rw [hs] at HPS
      have HZ := Lk.mk (show Z = false by rw [HST.out, h7, hs]; simp)
      clear HST HFL HBA
      obtain ⟨k0, p, g, f, d, s, v0, v1, v2, v3, o⟩ := x
      unfold stCells St.v at *
      dsimp only at *
      go_enter Tryz.func17, Tryz.ntmps17
      go_wp2_with (first
        | (go_at_call 31; (with_reducible refine (HO.out _).mono ?_); rintro e w1 ⟨rfl, hb⟩; have HB := Lk.mk (below_alloc (below_then HB0.out HB0.out.size hb) (.cells #[.string F0, .string F1] 73)); have HX := Lk.mk (show BoxS (w1.alloc (.cells #[.string F0, .string F1] 73)) w.heap.size _ from blk_alloc (blk_below HBX.out hb) _); have HFO := Lk.mk (blk_new w1 (.cells #[.string F0, .string F1] 73)); obtain ⟨⟨b0, b1, b2, b3, b4, b5⟩, b6, b7, b8, b9, b10, b11⟩ := box_cells HX.out; clear hb)
        | (go_at_call 32; (with_reducible refine (HP7.out _ _ (by simp)).mono ?_); rintro e w2 ⟨rfl, hb⟩; have HB := Lk.mk (below_then HB.out HB.out.size hb); have HX := Lk.mk (show BoxS w2 w.heap.size _ from blk_below HX.out hb); have HFO := Lk.mk (blk_below HFO.out hb); obtain ⟨⟨b0, b1, b2, b3, b4, b5⟩, b6, b7, b8, b9, b10, b11⟩ := box_cells HX.out; clear hb)
        | (go_at_call 32; (with_reducible refine (HPS.out _ HB.out).mono ?_); rintro e w3 ⟨rfl, hb⟩; have HB := Lk.mk (below_then HB.out HB.out.size hb); have HX := Lk.mk (show BoxS w3 w.heap.size _ from blk_below HX.out hb); have HFO := Lk.mk (blk_below HFO.out hb); obtain ⟨⟨b0, b1, b2, b3, b4, b5⟩, b6, b7, b8, b9, b10, b11⟩ := box_cells HX.out; clear hb))
      go_ret
      exact ⟨by rw [HZ.out]; rfl, HB.out⟩
    | false =>
      rw [hs] at HPS
      cases hm : Sl.mayVs [x.v] with
      | false =>
        rw [hm] at HMY
        have HZ := Lk.mk (show Z = false by rw [HST.out, h7, hs, hm]; simp)
        clear HST HFL HBA
        obtain ⟨k0, p, g, f, d, s, v0, v1, v2, v3, o⟩ := x
        unfold stCells St.v at *
        dsimp only at *
        go_enter Tryz.func17, Tryz.ntmps17
        go_wp2_with (first
          | (go_at_call 31; (with_reducible refine (HO.out _).mono ?_); rintro e w1 ⟨rfl, hb⟩; have HB := Lk.mk (below_alloc (below_then HB0.out HB0.out.size hb) (.cells #[.string F0, .string F1] 73)); have HX := Lk.mk (show BoxS (w1.alloc (.cells #[.string F0, .string F1] 73)) w.heap.size _ from blk_alloc (blk_below HBX.out hb) _); have HFO := Lk.mk (blk_new w1 (.cells #[.string F0, .string F1] 73)); obtain ⟨⟨b0, b1, b2, b3, b4, b5⟩, b6, b7, b8, b9, b10, b11⟩ := box_cells HX.out; clear hb)
          | (go_at_call 32; (with_reducible refine (HP7.out _ _ (by simp)).mono ?_); rintro e w2 ⟨rfl, hb⟩; have HB := Lk.mk (below_then HB.out HB.out.size hb); have HX := Lk.mk (show BoxS w2 w.heap.size _ from blk_below HX.out hb); have HFO := Lk.mk (blk_below HFO.out hb); obtain ⟨⟨b0, b1, b2, b3, b4, b5⟩, b6, b7, b8, b9, b10, b11⟩ := box_cells HX.out; clear hb)
          | (go_at_call 32; (with_reducible refine (HPS.out _ HB.out).mono ?_); rintro e w3 ⟨rfl, hb⟩; have HB := Lk.mk (below_then HB.out HB.out.size hb); have HX := Lk.mk (show BoxS w3 w.heap.size _ from blk_below HX.out hb); have HFO := Lk.mk (blk_below HFO.out hb); obtain ⟨⟨b0, b1, b2, b3, b4, b5⟩, b6, b7, b8, b9, b10, b11⟩ := box_cells HX.out; clear hb)
          | (go_at_call 33; (with_reducible refine (HMY.out _ _ rfl).mono ?_); rintro e w4 ⟨rfl, hb⟩; have HB := Lk.mk (below_then HB.out HB.out.size hb); have HX := Lk.mk (show BoxS w4 w.heap.size _ from blk_below HX.out hb); have HFO := Lk.mk (blk_below HFO.out hb); have hf0 := (blk_cell HFO.out 0).trans rfl; have hf1 := (blk_cell HFO.out 1).trans rfl; obtain ⟨⟨b0, b1, b2, b3, b4, b5⟩, b6, b7, b8, b9, b10, b11⟩ := box_cells HX.out; clear hb))
        go_ret
        exact ⟨by rw [HZ.out]; rfl, HB.out⟩
      | true =>
        rw [hm] at HMY
        have hz := show Z = (bareB R && lastB x l.length) by rw [HST.out, h7, hs, hm]; simp
        have hfl := HFL.out
        clear HST h7 hs hm HFL
        obtain ⟨⟨q0, q1, q2, q3, q4, q5, q6, q7, q8, q9, q10⟩, qA, qn, qc⟩ := R
        obtain ⟨k0, p, g, f, d, s, v0, v1, v2, v3, o⟩ := x
        unfold bareB lastB at hz
        unfold Fld at hfl
        dsimp only at hz hfl
        have HZ := Lk.mk hz
        obtain ⟨⟨g1, g2⟩, ⟨g3, g4⟩, ⟨g5, g6⟩, ⟨g7, g8⟩⟩ := hfl
        clear hz
        unfold Sx.cells at HBA
        unfold stCells St.v at *
        dsimp only at *
        by_cases hq : qn = 0 ∧ q2 + q3 + q4 + q5 = 0 ∧ q10 = 0 ∧ q6 = 0 ∧ q7 = 0 ∧ q8 = 0 ∧ q9 = 0
        · obtain ⟨e1, e2, e3, e4, e5, e6, e7⟩ := hq
          have r2 : q2 = 0 := by omega
          have r3 : q3 = 0 := by omega
          have r4 : q4 = 0 := by omega
          have r5 : q5 = 0 := by omega
          clear g1 g2 g3 g4 g5 g6 g7 g8 e2
          subst e1
          subst e3
          subst e4
          subst e5
          subst e6
          subst e7
          subst r2
          subst r3
          subst r4
          subst r5
          go_enter Tryz.func17, Tryz.ntmps17
          go_wp2_with (first
            | (go_at_call 31; (with_reducible refine (HO.out _).mono ?_); rintro e w1 ⟨rfl, hb⟩; have HB := Lk.mk (below_alloc (below_then HB0.out HB0.out.size hb) (.cells #[.string F0, .string F1] 73)); have HX := Lk.mk (show BoxS (w1.alloc (.cells #[.string F0, .string F1] 73)) w.heap.size _ from blk_alloc (blk_below HBX.out hb) _); have HFO := Lk.mk (blk_new w1 (.cells #[.string F0, .string F1] 73)); obtain ⟨⟨b0, b1, b2, b3, b4, b5⟩, b6, b7, b8, b9, b10, b11⟩ := box_cells HX.out; clear hb)
            | (go_at_call 32; (with_reducible refine (HP7.out _ _ (by simp)).mono ?_); rintro e w2 ⟨rfl, hb⟩; have HB := Lk.mk (below_then HB.out HB.out.size hb); have HX := Lk.mk (show BoxS w2 w.heap.size _ from blk_below HX.out hb); have HFO := Lk.mk (blk_below HFO.out hb); obtain ⟨⟨b0, b1, b2, b3, b4, b5⟩, b6, b7, b8, b9, b10, b11⟩ := box_cells HX.out; clear hb)
            | (go_at_call 32; (with_reducible refine (HPS.out _ HB.out).mono ?_); rintro e w3 ⟨rfl, hb⟩; have HB := Lk.mk (below_then HB.out HB.out.size hb); have HX := Lk.mk (show BoxS w3 w.heap.size _ from blk_below HX.out hb); have HFO := Lk.mk (blk_below HFO.out hb); obtain ⟨⟨b0, b1, b2, b3, b4, b5⟩, b6, b7, b8, b9, b10, b11⟩ := box_cells HX.out; clear hb)
            | (go_at_call 33; (with_reducible refine (HMY.out _ _ rfl).mono ?_); rintro e w4 ⟨rfl, hb⟩; have HB := Lk.mk (below_then HB.out HB.out.size hb); have HX := Lk.mk (show BoxS w4 w.heap.size _ from blk_below HX.out hb); have HFO := Lk.mk (blk_below HFO.out hb); have hf0 := (blk_cell HFO.out 0).trans rfl; have hf1 := (blk_cell HFO.out 1).trans rfl; obtain ⟨⟨b0, b1, b2, b3, b4, b5⟩, b6, b7, b8, b9, b10, b11⟩ := box_cells HX.out; clear hb)
            | (go_at_call 34; (with_reducible refine (HBA.out _).mono ?_); rintro e w5 ⟨rfl, hb⟩; have HB := Lk.mk (below_then HB.out HB.out.size hb); have HX := Lk.mk (show BoxS (w5.alloc (.cells #[.int .u8 q0, .int .i64 q1, .int .i64 0, .int .i64 0, .int .i64 0, .int .i64 0, .int .u8 0, .int .u64 0, .int .i64 0, .int .i64 0, .int .u8 0, .slice qA 0 qc] 49)) w.heap.size _ from blk_alloc (blk_below HX.out hb) _); have HBQ := Lk.mk (below_alloc HB.out (.cells #[.int .u8 q0, .int .i64 q1, .int .i64 0, .int .i64 0, .int .i64 0, .int .i64 0, .int .u8 0, .int .u64 0, .int .i64 0, .int .i64 0, .int .u8 0, .slice qA 0 qc] 49)); obtain ⟨⟨b0, b1, b2, b3, b4, b5⟩, b6, b7, b8, b9, b10, b11⟩ := box_cells HX.out; clear hb))
          all_goals go_ret
          all_goals refine ⟨ret_bool ?_, HBQ.out⟩
          all_goals rw [HZ.out]
          all_goals clear HZ HBQ HB HX HBX HB0 HPS HP7 HMY HBA HO
          all_goals simp_all
          all_goals first | (intros; omega) | rfl | (by_cases hv1 : v0 = 1 <;> simp [hv1])
        · have HQ := Lk.mk hq
          have HZ2 := Lk.mk (show Z = false by
            rw [HZ.out]
            simp only [Bool.and_eq_false_iff, Bool.not_eq_false', decide_eq_false_iff_not, decide_eq_true_eq]
            omega)
          clear hq HZ
          go_enter Tryz.func17, Tryz.ntmps17
          go_wp2_with (first
            | (go_at_call 31; (with_reducible refine (HO.out _).mono ?_); rintro e w1 ⟨rfl, hb⟩; have HB := Lk.mk (below_alloc (below_then HB0.out HB0.out.size hb) (.cells #[.string F0, .string F1] 73)); have HX := Lk.mk (show BoxS (w1.alloc (.cells #[.string F0, .string F1] 73)) w.heap.size _ from blk_alloc (blk_below HBX.out hb) _); have HFO := Lk.mk (blk_new w1 (.cells #[.string F0, .string F1] 73)); obtain ⟨⟨b0, b1, b2, b3, b4, b5⟩, b6, b7, b8, b9, b10, b11⟩ := box_cells HX.out; clear hb)
            | (go_at_call 32; (with_reducible refine (HP7.out _ _ (by simp)).mono ?_); rintro e w2 ⟨rfl, hb⟩; have HB := Lk.mk (below_then HB.out HB.out.size hb); have HX := Lk.mk (show BoxS w2 w.heap.size _ from blk_below HX.out hb); have HFO := Lk.mk (blk_below HFO.out hb); obtain ⟨⟨b0, b1, b2, b3, b4, b5⟩, b6, b7, b8, b9, b10, b11⟩ := box_cells HX.out; clear hb)
            | (go_at_call 32; (with_reducible refine (HPS.out _ HB.out).mono ?_); rintro e w3 ⟨rfl, hb⟩; have HB := Lk.mk (below_then HB.out HB.out.size hb); have HX := Lk.mk (show BoxS w3 w.heap.size _ from blk_below HX.out hb); have HFO := Lk.mk (blk_below HFO.out hb); obtain ⟨⟨b0, b1, b2, b3, b4, b5⟩, b6, b7, b8, b9, b10, b11⟩ := box_cells HX.out; clear hb)
            | (go_at_call 33; (with_reducible refine (HMY.out _ _ rfl).mono ?_); rintro e w4 ⟨rfl, hb⟩; have HB := Lk.mk (below_then HB.out HB.out.size hb); have HX := Lk.mk (show BoxS w4 w.heap.size _ from blk_below HX.out hb); have HFO := Lk.mk (blk_below HFO.out hb); have hf0 := (blk_cell HFO.out 0).trans rfl; have hf1 := (blk_cell HFO.out 1).trans rfl; obtain ⟨⟨b0, b1, b2, b3, b4, b5⟩, b6, b7, b8, b9, b10, b11⟩ := box_cells HX.out; clear hb)
            | (go_at_call 34; (with_reducible refine (HBA.out _).mono ?_); rintro e w5 ⟨rfl, hb⟩; have HB := Lk.mk (below_then HB.out HB.out.size hb); have HX := Lk.mk (show BoxS (w5.alloc (.cells #[.int .u8 q0, .int .i64 q1, .int .i64 q2, .int .i64 q3, .int .i64 q4, .int .i64 q5, .int .u8 q6, .int .u64 q7, .int .i64 q8, .int .i64 q9, .int .u8 q10, .slice qA qn qc] 49)) w.heap.size _ from blk_alloc (blk_below HX.out hb) _); have HBQ := Lk.mk (below_alloc HB.out (.cells #[.int .u8 q0, .int .i64 q1, .int .i64 q2, .int .i64 q3, .int .i64 q4, .int .i64 q5, .int .u8 q6, .int .u64 q7, .int .i64 q8, .int .i64 q9, .int .u8 q10, .slice qA qn qc] 49)); obtain ⟨⟨b0, b1, b2, b3, b4, b5⟩, b6, b7, b8, b9, b10, b11⟩ := box_cells HX.out; clear hb))
          all_goals (try (exfalso; have hq := HQ.out; apply hq; refine ⟨?_, ?_, ?_, ?_, ?_, ?_, ?_⟩ <;> omega))
          all_goals go_ret
          all_goals exact ⟨by rw [HZ2.out]; rfl, below_alloc HB.out _⟩
end Go.Proofs.YtpnklpjjbpheeaaGreatDoor
