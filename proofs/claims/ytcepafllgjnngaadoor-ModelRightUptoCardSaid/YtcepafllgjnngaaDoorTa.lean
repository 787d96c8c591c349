/-
  The walk of the model's right at a row that is not right; conditions: the row and the table read as told.
-/
import Derived.Test.YtcepafllgjnngaaDoorPe
import Derived.StillTailTactics
namespace Go.Proofs.YtcepafllgjnngaaDoor
open Go.RowKit Go.Proofs.YtcepafllgjnngaaDoorW.PrintWords

theorem wpStill_val {P : Program} {ops : Array Oper} {w : World} {Q : Act → Prop} {a : Act} {o : Oper} {rest : List Oper} {v : Value} (hg : Region.wanted o (yielded ops a.tmps) = true) (hr : (execOp a.eval o).run P w = .ok (.value v) w) (h : wpStill P ops w Q rest (a.put o.dst v)) : wpStill P ops w Q (o :: rest) a := by
  unfold wpStill
  rw [if_pos hg]
  unfold Oper.still
  rw [hr]
  exact ⟨rfl, h⟩
theorem wpStill_skip {P : Program} {ops : Array Oper} {w : World} {Q : Act → Prop} {a : Act} {o : Oper} {rest : List Oper} (hg : Region.wanted o (yielded ops a.tmps) = false) (h : wpStill P ops w Q rest (a.put o.dst undef)) : wpStill P ops w Q (o :: rest) a := by
  unfold wpStill
  rw [if_neg (by rw [hg]; exact Bool.false_ne_true)]
  exact h
/-- right's way out behind what was thrown -/
theorem right_out {w W : World} {n : Int} {tmps : Array Value} (hn : ¬ n = 0) (hb : Below w.heap.size w W) (hE : W.heap[w.heap.size + 1]? = some (.cells #[.int .i64 0] 30 (0, 0))) (ht : tmps[2]?.getD undef = .pointer (some ⟨w.heap.size + 1, 0, none⟩) := by rfl) :
    Leaves Tryd.prog Tryd.f171 tmps (fun e w' => (∃ n : Int, ¬ n = 0 ∧ e = .returned (.int .i64 n)) ∧ Below w.heap.size w w') [] (settle (.panicking [{ v := .iface 205 (.agg #[.int .i64 n]), recovered := true }])) ((W.alloc (.cells #[.int .i64 n] 205)).setCell ⟨w.heap.size + 1, 0, none⟩ (.int .i64 n)) := by
  have hE2 := blk_put (cs' := #[.int .i64 n]) (blk_alloc hE (.cells #[.int .i64 n] 205)) 0 (.int .i64 n) rfl
  have hc := blk_cell hE2 0
  simp only [List.getElem?_toArray, List.getElem?_cons_zero] at hc
  have hB := (below_alloc hb (.cells #[.int .i64 n] 205)).setCell (p := ⟨w.heap.size + 1, 0, none⟩) (Nat.le_succ _) (.int .i64 n)
  simp only [settle, List.dropWhile]
  simp [Leaves, results, Tryd.results171, go_sem]
  rw [ht]
  refine ⟨.int .i64 n, ?_, ⟨n, hn, rfl⟩, hB⟩
  simp [go_sem]
  rw [hc]
set_option maxRecDepth 100000 in
set_option maxHeartbeats 1000000 in
theorem mright_bad (p : Value) (ent : List (Int × (List Int × List Int))) (A : Option Addr) (c : Nat) (l : List Af) (w : World) (ht : TblOr w p ent) (he : EntIn ent) (hw : ∀ e ∈ ent, Bm.Words e.2.1) (hr : kAf.C w A l.length l) (hv : AfIn l) (hR : ¬ RightP (tSize ent) (tPtr ent) l) :
    Calls Tryd.prog 171 #[.agg #[p, .slice A l.length c]] w fun e w' => (∃ n : Int, ¬ n = 0 ∧ e = .returned (.int .i64 n)) ∧ Below w.heap.size w w' := by
  have hm := hr.2.1
  have H0 := Lk.mk (below_alloc (below_alloc (Below.refl w.heap.size w) (.cells #[p, .slice A l.length c] 179)) (.cells #[.int .i64 0] 30))
  have HX0 := Lk.mk (blk_alloc (blk_new w (.cells #[p, .slice A l.length c] 179)) (.cells #[.int .i64 0] 30))
  have hs1 : (w.alloc (.cells #[p, .slice A l.length c] 179)).heap.size = w.heap.size + 1 := by simp
  have hE0 := blk_new (w.alloc (.cells #[p, .slice A l.length c] 179)) (.cells #[.int .i64 0] 30)
  rw [hs1] at hE0
  have HE0 := Lk.mk hE0
  have HRC := Lk.mk hr
  have HSZ := Lk.mk (fun W f (hb : Below w.heap.size w W) => size_any p ent f W (ht.below hb))
  have HFT := Lk.mk (fun W (k : Nat) (s : Int) v (hb : Below w.heap.size w W) (hk : k < l.length) (hs : s ≤ 9223372036854775807) (hv : VlIn v) => mfits_any p ent A c l k s v W (ht.below hb) hw (Kd.C_below hr hb) hk hs hv)
  have HV := Lk.mk hv
  have HRP := Lk.mk hR
  clear ht hw hr hv hs1 hE0 hR
  obtain ⟨a0, a1⟩ := cells2v HX0.out
  go_enter_defers Tryd.func171, Tryd.ntmps171
  go_wp2
  go_loopg [12] l.length (fun gg v12 wr => ∃ k : Nat, k ≤ l.length ∧ l.length - k ≤ gg ∧ v12 = .int .i64 k ∧ Lk (∀ d, d < k → tSize ent (l.getD d dAf).1 = (l.getD d dAf).2.length) ∧ Lk (wr.heap[w.heap.size]? = some (.cells #[p, .slice A l.length c] 179 (0, 0))) ∧ Lk (wr.heap[w.heap.size + 1]? = some (.cells #[.int .i64 0] 30 (0, 0))) ∧ Lk (Below w.heap.size w wr))
  case atStart => exact ⟨0, by omega, by omega, rfl, ⟨fun d hd => absurd hd (by omega)⟩, HX0, HE0, H0⟩
  case round =>
    obtain ⟨k, hk, hg, rfl, HE1, HX, HE, HB⟩ := hrel
    obtain ⟨wo, rfl⟩ : ∃ wo : World, wo = wr := ⟨_, rfl⟩
    by_cases hlt : k < l.length
    · have hltz : (k : Int) < (l.length : Int) := by omega
      obtain ⟨ad, A1, c1, rfl, b0, b1, _, _⟩ := kAf_at (Kd.C_below HRC.out HB.out) k hlt
      have HX1 := Lk.mk (fun (h : tSize ent (l.getD k dAf).1 = (l.getD k dAf).2.length) => (fun d hd => by
        by_cases e : d = k
        · subst e; exact h
        · exact HE1.out d (by omega) : ∀ d, d < k + 1 → tSize ent (l.getD d dAf).1 = (l.getD d dAf).2.length))
      generalize l.getD k dAf = f at *
      obtain ⟨f0, f1⟩ := f
      dsimp only at *
      have HBd := Lk.mk (below_drew (below_alloc HB.out (.cells #[.int .i64 f0, .slice A1 f1.length c1] 113)))
      have HXd := Lk.mk (blk_drew (blk_alloc HX.out (.cells #[.int .i64 f0, .slice A1 f1.length c1] 113)))
      have HEd := Lk.mk (blk_drew (blk_alloc HE.out (.cells #[.int .i64 f0, .slice A1 f1.length c1] 113)))
      have HFd := Lk.mk (blk_drew (blk_new wo (.cells #[.int .i64 f0, .slice A1 f1.length c1] 113)))
      have HC := Lk.mk (HSZ.out _ f0 HBd.out)
      obtain ⟨x0, x1⟩ := cells2v HXd.out
      obtain ⟨y0, y1⟩ := cells2v HFd.out
      have hzr := (tSize_in he f0).1
      generalize tSize ent f0 = z at *
      by_cases hz : z = (f1.length : Int)
      · have HE2 := Lk.mk (HX1.out hz)
        have hz0 : (0 : Int) ≤ z := by omega
        subst hz
        clear HX1
        go_wp2
        go_region_held3 (fun W => W.cell? ⟨w.heap.size, 0, none⟩ = some p ∧ W.cell? ⟨wo.heap.size, 0, none⟩ = some (.int .i64 f0) ∧ W.cell? ⟨wo.heap.size, 1, none⟩ = some (.slice A1 f1.length c1)) (first | exact ⟨x0, y0, y1⟩) (first
          | (go_at_call 63; (with_reducible refine (HC.out).mono ?_); rintro e w' ⟨rfl, hw⟩; obtain rfl := hw.symm; clear hw)
          | (go_at_call 112; (with_reducible refine (mmust_ok _ _).mono ?_); rintro e w' ⟨rfl, hw⟩; obtain rfl := hw.symm; clear hw))
        go_wp2
        go_roundg (l.length - (k + 1))
        case measure => omega
        case rel => exact ⟨k + 1, by omega, by omega, by go_num, HE2, HXd, HEd, HBd⟩
      · clear HX1
        by_cases hz0 : z < 0
        · have hzd : Lk (decide ((0 : Int) ≤ z) = false) := ⟨decide_eq_false (by omega)⟩
          clear hz hz0 hzr
          go_wp2
          obtain ⟨W9, hW9⟩ : ∃ W9, W9 = (wo.alloc (.cells #[.int .i64 f0, .slice A1 f1.length c1] 113)).drew := ⟨_, rfl⟩
          rw [← hW9] at HBd HXd HEd HFd HC x0 x1 y0 y1
          refine wp_region_still_tail 17 (by kernel_rfl) (by kernel_rfl) ?_
          rw [show ({ wo.alloc (.cells #[.int .i64 f0, .slice A1 f1.length c1] 113) with drawn := (wo.alloc (.cells #[.int .i64 f0, .slice A1 f1.length c1] 113)).drawn + 1 } : World) = W9 from hW9.symm]
          clear hW9
          simp only [List.take_succ_cons, List.take_zero, List.drop_succ_cons, List.drop_zero]
          repeat still_step
          still_call HC.out
          repeat still_step
          rw [hzd.out]
          iterate 9 with_reducible refine wpStill_skip (by kernel_rfl) ?_
          with_reducible refine wpStill_val (v := .bool false) (by kernel_rfl) (by kernel_rfl) ?_
          with_reducible refine wpStill_nil ?_
          go_wp2_with (go_at_call 112; (with_reducible refine (mmust_no _ _).mono ?_); rintro e w' ⟨rfl, hw⟩; obtain rfl := hw.symm; clear hw)
          refine leaves_cons (f := 153) (args := #[.pointer (some ⟨w.heap.size + 1, 0, none⟩)]) (by simp) (by simp [go_sem]) ?_
          refine (mright_caught (w.heap.size + 1) 9 _ HEd.out).mono ?_
          rintro e u' w'' ⟨rfl, rfl, rfl⟩
          exact right_out (w := w) (by decide) HBd.out HEd.out
        · have hz1 : (0 : Int) ≤ z := by omega
          have hbe : (z == (f1.length : Int)) = false := beq_false_of_ne hz
          clear hz hz0
          go_wp2
          obtain ⟨W9, hW9⟩ : ∃ W9, W9 = (wo.alloc (.cells #[.int .i64 f0, .slice A1 f1.length c1] 113)).drew := ⟨_, rfl⟩
          rw [← hW9] at HBd HXd HEd HFd HC x0 x1 y0 y1
          refine wp_region_still_tail 17 (by kernel_rfl) (by kernel_rfl) ?_
          rw [show ({ wo.alloc (.cells #[.int .i64 f0, .slice A1 f1.length c1] 113) with drawn := (wo.alloc (.cells #[.int .i64 f0, .slice A1 f1.length c1] 113)).drawn + 1 } : World) = W9 from hW9.symm]
          clear hW9
          simp only [List.take_succ_cons, List.take_zero, List.drop_succ_cons, List.drop_zero]
          repeat still_step
          still_call HC.out
          repeat still_step
          still_call HC.out
          repeat still_step
          refine wpStill_nil ?_
          go_wp2_with (go_at_call 112; (with_reducible refine (mmust_no _ _).mono ?_); rintro e w' ⟨rfl, hw⟩; obtain rfl := hw.symm; clear hw)
          refine leaves_cons (f := 153) (args := #[.pointer (some ⟨w.heap.size + 1, 0, none⟩)]) (by simp) (by simp [go_sem]) ?_
          refine (mright_caught (w.heap.size + 1) 9 _ HEd.out).mono ?_
          rintro e u' w'' ⟨rfl, rfl, rfl⟩
          exact right_out (w := w) (by decide) HBd.out HEd.out
    · obtain rfl : k = l.length := by omega
      have hltz : ¬ (l.length : Int) < (l.length : Int) := by omega
      obtain ⟨x0, x1⟩ := cells2v HX.out
      go_wp2
      go_loopg [38] l.length (fun gg v38 W2 => ∃ d : Nat, d ≤ l.length ∧ l.length - d ≤ gg ∧ v38 = .int .i64 d ∧ Lk (∀ j i : Nat, j < d → i < (l.getD j dAf).2.length → fitsN (tPtr ent) l j i (slotV l j i) = 0) ∧ Lk (W2.heap[w.heap.size]? = some (.cells #[p, .slice A l.length c] 179 (0, 0))) ∧ Lk (W2.heap[w.heap.size + 1]? = some (.cells #[.int .i64 0] 30 (0, 0))) ∧ Lk (Below w.heap.size w W2))
      case atStart => exact ⟨0, by omega, by omega, rfl, ⟨fun j i hj => absurd hj (by omega)⟩, HX, HE, HB⟩
      case round =>
        obtain ⟨d, hd, hg2, rfl, HF2, HX2, HE2, HB2⟩ := hrel
        obtain ⟨w2, rfl⟩ : ∃ w2 : World, w2 = wr := ⟨_, rfl⟩
        clear HX HE HB x0 x1
        obtain ⟨x0, x1⟩ := cells2v HX2.out
        by_cases hdl : d < l.length
        · have hdz : (d : Int) < (l.length : Int) := by omega
          obtain ⟨ad, A1, c1, rfl, b0, b1, _, hC1⟩ := kAf_at (Kd.C_below HRC.out HB2.out) d hdl
          have HCV := Lk.mk hC1
          have hmx := hC1.2.1
          have HXF := Lk.mk (fun (h : ∀ i : Nat, i < (l.getD d dAf).2.length → fitsN (tPtr ent) l d i (slotV l d i) = 0) => (fun j i hj hi => by
            by_cases e : j = d
            · subst e; exact h i hi
            · exact HF2.out j i (by omega) hi : ∀ j i : Nat, j < d + 1 → i < (l.getD j dAf).2.length → fitsN (tPtr ent) l j i (slotV l j i) = 0))
          unfold slotV at HXF
          have HVI := Lk.mk (HV.out _ (getD_mem dAf hdl))
          generalize l.getD d dAf = f at *
          obtain ⟨f0, f1⟩ := f
          dsimp only at *
          have HBa := Lk.mk (below_alloc HB2.out (.cells #[.int .i64 f0, .slice A1 f1.length c1] 113))
          have HXa := Lk.mk (blk_alloc HX2.out (.cells #[.int .i64 f0, .slice A1 f1.length c1] 113))
          have HEa := Lk.mk (blk_alloc HE2.out (.cells #[.int .i64 f0, .slice A1 f1.length c1] 113))
          have HCa := Lk.mk (Kd.C_below HCV.out (below_alloc (Below.refl _ _) (.cells #[.int .i64 f0, .slice A1 f1.length c1] 113)))
          obtain ⟨y0, y1⟩ := cells2v (blk_new w2 (.cells #[.int .i64 f0, .slice A1 f1.length c1] 113))
          clear hC1
          go_wp2
          go_loopg [46] f1.length (fun gg v46 W3 => ∃ i : Nat, i ≤ f1.length ∧ f1.length - i ≤ gg ∧ v46 = .int .i64 i ∧ Lk (∀ j : Nat, j < i → fitsN (tPtr ent) l d j (f1.getD j Sl.dVl) = 0) ∧ Lk (W3.heap[w.heap.size]? = some (.cells #[p, .slice (some ad) l.length c] 179 (0, 0))) ∧ Lk (W3.heap[w.heap.size + 1]? = some (.cells #[.int .i64 0] 30 (0, 0))) ∧ Lk (kVl.C W3 A1 f1.length f1) ∧ Lk (Below w.heap.size w W3))
          case atStart => exact ⟨0, by omega, by omega, rfl, ⟨fun j hj => absurd hj (by omega)⟩, HXa, HEa, HCa, HBa⟩
          case round =>
            obtain ⟨i, hi, hg3, rfl, HF3, HX3, HE3, HC3, HB3⟩ := hrel
            obtain ⟨w3, rfl⟩ : ∃ w3 : World, w3 = wr := ⟨_, rfl⟩
            clear HXa HEa HCa HBa x0 x1 y0 y1 b0 b1
            by_cases hil : i < f1.length
            · have hiz : (i : Int) < (f1.length : Int) := by omega
              obtain ⟨ad1, rfl, e0, e1, e2, e3⟩ := kVl_at HC3.out i hil
              have HF := Lk.mk (HFT.out ((w3.alloc (.cells #[.int .u8 (f1.getD i Sl.dVl).1, .int .u64 (f1.getD i Sl.dVl).2.1, .int .i64 (f1.getD i Sl.dVl).2.2.1, .int .i64 (f1.getD i Sl.dVl).2.2.2] 56))) d (i : Int) (f1.getD i Sl.dVl) (below_alloc HB3.out _) hdl (by omega) (HVI.out _ (getD_mem _ hil)))
              have HX4 := Lk.mk (fun (h : fitsN (tPtr ent) l d i (f1.getD i Sl.dVl) = 0) => (fun j hj => by
                by_cases e : j = i
                · subst e; exact h
                · exact HF3.out j (by omega) : ∀ j : Nat, j < i + 1 → fitsN (tPtr ent) l d j (f1.getD j Sl.dVl) = 0))
              have HBv := Lk.mk (below_alloc (Below.refl w3.heap.size w3) (.cells #[.int .u8 (f1.getD i Sl.dVl).1, .int .u64 (f1.getD i Sl.dVl).2.1, .int .i64 (f1.getD i Sl.dVl).2.2.1, .int .i64 (f1.getD i Sl.dVl).2.2.2] 56))
              have HVn := Lk.mk (blk_new w3 (.cells #[.int .u8 (f1.getD i Sl.dVl).1, .int .u64 (f1.getD i Sl.dVl).2.1, .int .i64 (f1.getD i Sl.dVl).2.2.1, .int .i64 (f1.getD i Sl.dVl).2.2.2] 56))
              have HXv := Lk.mk (blk_alloc HX3.out (.cells #[.int .u8 (f1.getD i Sl.dVl).1, .int .u64 (f1.getD i Sl.dVl).2.1, .int .i64 (f1.getD i Sl.dVl).2.2.1, .int .i64 (f1.getD i Sl.dVl).2.2.2] 56))
              have HEv := Lk.mk (blk_alloc HE3.out (.cells #[.int .u8 (f1.getD i Sl.dVl).1, .int .u64 (f1.getD i Sl.dVl).2.1, .int .i64 (f1.getD i Sl.dVl).2.2.1, .int .i64 (f1.getD i Sl.dVl).2.2.2] 56))
              generalize fitsN (tPtr ent) l d i (f1.getD i Sl.dVl) = n at *
              generalize f1.getD i Sl.dVl = v at *
              obtain ⟨v0, v1, v2, v3⟩ := v
              dsimp only at *
              obtain ⟨x0, x1⟩ := cells2v HXv.out
              obtain ⟨y0, y1, y2, y3⟩ := cells4v HVn.out
              by_cases hn : n = 0
              · have HF4 := Lk.mk (HX4.out hn)
                have HFo := Lk.mk (HF.out.mono (fun e W' h => (show e = .returned (.tuple #[]) ∧ Below _ _ W' from ⟨by rcases h.1 with ⟨_, h⟩ | ⟨h, _⟩; exact h; exact absurd hn h, h.2⟩)))
                clear HX4 HF hn
                go_wp2_with (go_at_call 118; (with_reducible refine (HFo.out).mono ?_); rintro e w4 ⟨rfl, hb⟩; have HB4 := Lk.mk (below_then HB3.out HB3.out.size (below_then HBv.out HBv.out.size hb)); have HX4 := Lk.mk (blk_below HXv.out hb); have HE4 := Lk.mk (blk_below HEv.out hb); have HC4 := Lk.mk (Kd.C_below (Kd.C_below HC3.out HBv.out) hb); clear hb)
                go_roundg (f1.length - (i + 1))
                case measure => omega
                case rel => exact ⟨i + 1, by omega, by omega, by go_num, HF4, HX4, HE4, HC4, HB4⟩
              · have HN := Lk.mk hn
                have HFo := Lk.mk (HF.out.mono (fun e W' h => (show e = .panicked (wrongC n) ∧ Below _ _ W' from ⟨by rcases h.1 with ⟨h, _⟩ | ⟨_, h⟩; exact absurd h hn; exact h, h.2⟩)))
                clear HX4 HF hn
                go_wp2_with (go_at_call 118; (with_reducible refine (HFo.out).mono ?_); rintro e w4 ⟨rfl, hb⟩; have HB4 := Lk.mk (below_then HB3.out HB3.out.size (below_then HBv.out HBv.out.size hb)); have HE4 := Lk.mk (blk_below HEv.out hb); clear hb)
                refine leaves_cons (f := 153) (args := #[.pointer (some ⟨w.heap.size + 1, 0, none⟩)]) (by simp) (by simp [go_sem]) ?_
                refine (mright_caught (w.heap.size + 1) n _ HE4.out).mono ?_
                rintro e u' w'' ⟨rfl, rfl, rfl⟩
                exact right_out (w := w) HN.out HB4.out HE4.out
            · have hiz : ¬ (i : Int) < (f1.length : Int) := by omega
              go_wp2
              go_roundg (l.length - (d + 1))
              case measure => omega
              case rel => exact ⟨d + 1, by omega, by omega, by go_num, ⟨HXF.out (fun j hj => HF3.out j (by omega))⟩, HX3, HE3, HB3⟩
        · have hdz : ¬ (d : Int) < (l.length : Int) := by omega
          exact (HRP.out ⟨HE1.out, fun j i hj hi => HF2.out j i (by omega) hi⟩).elim
end Go.Proofs.YtcepafllgjnngaaDoor
