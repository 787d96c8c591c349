/-
  The walk of script.line; conditions: the tables stand, the numbers may be written.
-/
import Derived.Test.YtpnklpjjbpheeaaGreatDoorZg
import Derived.Test.YtpnklpjjbpheeaaGreatDoorShf
import Derived.Lib.ConvBytes
import Derived.Laws.BytesArg
import Derived.Laws.Rows
import Derived.Deep.RegionHeld3
namespace Go.Proofs.YtpnklpjjbpheeaaGreatDoor
open Go.RowKit Go.Proofs.YtpnklpjjbpheeaaGreatDoorW.PrintWords
open Go.Proofs.Fl Go.Proofs.YtpnklpjjbpheeaaGreatDoor.Flt

theorem iter_blk {w w1 : World} {k p : Nat} {F : ByteArray} (h : w.heap[k]? = some (.stringIter F p)) (hb : Below w.heap.size w w1) : w1.heap[k]? = some (.stringIter F p) := by
  have hlt : k < w.heap.size := by
    rcases Nat.lt_or_ge k w.heap.size with h1 | h1
    · exact h1
    · rw [Array.getElem?_eq_none h1] at h; cases h
  exact (hb.block k hlt).trans h
theorem iter_drew {w : World} {k p : Nat} {F : ByteArray} (h : w.heap[k]? = some (.stringIter F p)) : w.drew.heap[k]? = some (.stringIter F p) := h
theorem fK_size (k : Int) : (fK k).size ≤ 3 := by
  have key : ∀ j, j < 13 → (fF j).size ≤ 3 := by decide +kernel
  unfold fK
  split
  · rename_i ho
    unfold okK at ho
    simp only [Bool.and_eq_true, decide_eq_true_eq] at ho
    exact key (k.toNat - 1) (by omega)
  · decide
theorem wK_size (k : Int) : (wK k).size ≤ 1000001 := by
  have key : ∀ j, j < 13 → (fW j).size ≤ 1000001 := by decide +kernel
  unfold wK
  split
  · rename_i ho
    unfold okK at ho
    simp only [Bool.and_eq_true, decide_eq_true_eq] at ho
    exact key (k.toNat - 1) (by omega)
  · decide
/-- words' text -/
def joinW (xs : List ByteArray) : ByteArray := ⟨(Lib.join (xs.map (·.data.toList)) [32]).toArray⟩
theorem join_own {w : World} {base : Nat} {v : Value} {xs : List ByteArray} (h : OwnW w base v xs) (h0 : 0 < xs.length) (hl : xs.length ≤ 100000) (hj : (Lib.join (xs.map (·.data.toList)) [32]).length ≤ 140737488355328) :
    Calls Tryz.prog 38 #[v, .string ⟨#[32]⟩] w fun e w' => e = .returned (.string (joinW xs)) ∧ Below w.heap.size w w' := by
  have h2 := h.2
  rcases h2 with ⟨_, h1⟩ | ⟨g, cap, cur, rfl, _, hh, hc, _⟩
  · omega
  · refine Tryz.strings_Join g 0 cap xs ⟨#[32]⟩ w (fun j x hx => ?_) (blk_lt hh) (by omega) hc hj
    obtain ⟨hjl, hx⟩ := List.getElem?_eq_some_iff.1 hx
    have := (own_at_of (enc := Value.string) (d := ByteArray.empty) h (j : Int) (by omega) (by omega)).1
    rw [show ((j : Int)).toNat = j by omega] at this
    rw [Nat.zero_add, this]
    unfold rdOf
    rw [show ((j : Int)).toNat = j by omega, List.getD_eq_getElem?_getD, List.getElem?_eq_getElem hjl, hx]
    rfl
def stN (k : Int) (p g f d s : Nat) (v0 : Int) (v1 v2 v3 o : Nat) : St := ⟨k, p, g, f, d, s, v0, v1, v2, v3, o⟩
/-- a line's words -/
def lineW (k : Int) (p g f d s : Nat) (v0 : Int) (v1 v2 v3 o : Nat) (l : List Nat) : List ByteArray := lineTo (wK k) (fK k) p (fldW g f d s v0 v1 v2 v3 o l) (fK k).size
theorem line_cells {W : World} {b : Nat} {k v0 p g f d s v1 v2 v3 o : Int} {A : Option Addr} {n c : Nat} (h : W.heap[b]? = some (.cells #[.int .u8 k, .int .i64 p, .int .i64 g, .int .i64 f, .int .i64 d, .int .i64 s, .int .u8 v0, .int .u64 v1, .int .i64 v2, .int .i64 v3, .int .u8 o, .slice A n c] 49 (0, 0))) : (W.cell? ⟨b, 0, none⟩ = some (.int .u8 k) ∧ W.cell? ⟨b, 1, none⟩ = some (.int .i64 p) ∧ W.cell? ⟨b, 2, none⟩ = some (.int .i64 g) ∧ W.cell? ⟨b, 3, none⟩ = some (.int .i64 f) ∧ W.cell? ⟨b, 4, none⟩ = some (.int .i64 d) ∧ W.cell? ⟨b, 5, none⟩ = some (.int .i64 s)) ∧
    (W.cell? ⟨b, 6, none⟩ = some (.int .u8 v0) ∧ W.cell? ⟨b, 7, none⟩ = some (.int .u64 v1) ∧ W.cell? ⟨b, 8, none⟩ = some (.int .i64 v2) ∧ W.cell? ⟨b, 9, none⟩ = some (.int .i64 v3) ∧ W.cell? ⟨b, 10, none⟩ = some (.int .u8 o) ∧ W.cell? ⟨b, 11, none⟩ = some (.slice A n c)) :=
  ⟨⟨(blk_cell h 0).trans rfl, (blk_cell h 1).trans rfl, (blk_cell h 2).trans rfl, (blk_cell h 3).trans rfl, (blk_cell h 4).trans rfl, (blk_cell h 5).trans rfl⟩, ⟨(blk_cell h 6).trans rfl, (blk_cell h 7).trans rfl, (blk_cell h 8).trans rfl, (blk_cell h 9).trans rfl, (blk_cell h 10).trans rfl, (blk_cell h 11).trans rfl⟩⟩
structure LnIn (p g f d s v1 v2 v3 o : Nat) (l : List Nat) : Prop where
  p : p ≤ 1000000
  g : g ≤ 1000000
  f : f ≤ 1000000
  d : d ≤ 1000000
  s : s ≤ 1000000
  v1 : v1 < 18446744073709551616
  v2 : v2 ≤ 1000000
  v3 : v3 ≤ 1000000
  o : o ≤ 255
  n : l.length ≤ 1000
  a : ∀ y ∈ l, y ≤ 1000000
set_option maxRecDepth 100000 in
set_option maxHeartbeats 8000000 in
theorem line_any (k : Int) (p g f d s : Nat) (v0 : Int) (v1 v2 v3 o : Nat) (A : Option Addr) (c : Nat) (l : List Nat) (w : World) (hk : 0 ≤ k ∧ k ≤ 255) (hi : LnIn p g f d s v1 v2 v3 o l) (hr : ReadsInt w .i64 A l.length (l.map (fun n : Nat => (n : Int)))) (hT : Tab w) (hP : P10 w) :
    Calls Tryz.prog 18 #[.agg (stCells (stN k p g f d s v0 v1 v2 v3 o) A l.length c)] w fun e w' => e = .returned (.string (joinW (lineW k p g f d s v0 v1 v2 v3 o l))) ∧ Below w.heap.size w w' := by
  obtain ⟨hp, hg, hf, hd, hs, h1, h2, h3, ho, hll, hla⟩ := hi
  have HO := Lk.mk (fun W => sof_any (stN k p g f d s v0 v1 v2 v3 o) A l.length c W hk)
  have HND := Lk.mk (show ∀ n : Nat, n ≤ 1000000 → ∀ W, Below w.heap.size w W → Calls Tryz.prog 35 #[.int .i64 (n : Int)] W fun e w' => e = .returned (.string (dec n)) ∧ Below W.heap.size W w' from fun n hn W hb => snum_any n W hn (hP.below hb))
  have HTX := Lk.mk (show ∀ W, Below w.heap.size w W → Calls Tryz.prog 37 #[.int .u64 (v1 : Int)] W fun e w' => e = .returned (.string (tx v1)) ∧ Below W.heap.size W w' from fun W hb => ftext_any v1 W h1 (hT.below hb))
  have HVA := Lk.mk (fun W (hb : Below w.heap.size w W) => svalue_any v0 v1 v2 v3 W h1 h2 h3 (hT.below hb) (hP.below hb))
  have HRS := Lk.mk (fun W (hb : Below w.heap.size w W) => hr.below hb)
  have HVL := Lk.mk (show (vW v0 v1 v2 v3).length ≤ 3 by (unfold vW; repeat' split) <;> simp)
  have hq := fldW_len g f d s v0 v1 v2 v3 o l
  have hqs := fldW_small g f d s v0 v1 v2 v3 o l
  have HFF := Lk.mk (fK_ascii k)
  have HLT := Lk.mk (show ∀ i, i ≤ (fK k).size → (lineTo (wK k) (fK k) p (fldW g f d s v0 v1 v2 v3 o l) i).length ≤ 5000 from fun i hi => by
    have h5 := lineTo_len (wK k) (fK k) p (fldW g f d s v0 v1 v2 v3 o l) 1003 (fun c => Nat.le_trans (hq c) (by omega)) i
    have h6 := fK_size k
    omega)
  have HJ := Lk.mk (show (Lib.join ((lineW k p g f d s v0 v1 v2 v3 o l).map (·.data.toList)) [32]).length ≤ 140737488355328 by
    have h5 := join_small 1000001 (lineW k p g f d s v0 v1 v2 v3 o l) (by
      intro x hx
      unfold lineW lineTo at hx
      rcases List.mem_cons.1 hx with rfl | hx
      · exact wK_size k
      · rcases List.mem_cons.1 hx with rfl | hx
        · exact Nat.le_trans (dec_size p) (by omega)
        · obtain ⟨b, _, hb⟩ := List.mem_flatMap.1 hx
          exact hqs b.toNat hg hf hd hs h2 h3 (by omega) hla x hb)
    have h6 : (lineW k p g f d s v0 v1 v2 v3 o l).length ≤ 5000 := HLT.out _ (Nat.le_refl _)
    omega)
  have HT0 := Lk.mk (show lineTo (wK k) (fK k) p (fldW g f d s v0 v1 v2 v3 o l) 0 = [wK k, dec p] by unfold lineTo; simp)
  have HNX0 := Lk.mk (fun i h => lineTo_next (wK k) (fK k) p (fldW g f d s v0 v1 v2 v3 o l) i h)
  have HTE := Lk.mk (show lineTo (wK k) (fK k) p (fldW g f d s v0 v1 v2 v3 o l) (fK k).size = lineW k p g f d s v0 v1 v2 v3 o l from rfl)
  have HLZ := Lk.mk (show 0 < (lineW k p g f d s v0 v1 v2 v3 o l).length ∧ (lineW k p g f d s v0 v1 v2 v3 o l).length ≤ 100000 from ⟨by unfold lineW lineTo; simp, Nat.le_trans (HLT.out _ (Nat.le_refl _)) (by decide)⟩)
  have HQ103 := Lk.mk (show fldW g f d s v0 v1 v2 v3 o l 103 = [dec g] from if_pos rfl)
  have HQ102 := Lk.mk (show fldW g f d s v0 v1 v2 v3 o l 102 = [dec f] from rfl)
  have HQ100 := Lk.mk (show fldW g f d s v0 v1 v2 v3 o l 100 = [dec d, dec s] from rfl)
  have HQ118 := Lk.mk (show fldW g f d s v0 v1 v2 v3 o l 118 = vW v0 v1 v2 v3 from rfl)
  have HQ98 := Lk.mk (show fldW g f d s v0 v1 v2 v3 o l 98 = [tx v1] from rfl)
  have HQ111 := Lk.mk (show fldW g f d s v0 v1 v2 v3 o l 111 = [dec o] from rfl)
  have HQ115 := Lk.mk (show fldW g f d s v0 v1 v2 v3 o l 115 = dec d :: l.map dec from rfl)
  have HQN := Lk.mk (show ∀ c, c ≠ 103 → c ≠ 102 → c ≠ 100 → c ≠ 118 → c ≠ 98 → c ≠ 111 → c ≠ 115 → fldW g f d s v0 v1 v2 v3 o l c = [] from fun c h1 h2 h3 h4 h5 h6 h7 => by unfold fldW; rw [if_neg h1, if_neg h2, if_neg h3, if_neg h4, if_neg h5, if_neg h6, if_neg h7])
  clear hq hqs hT hP hr hk h1 h2 h3
  generalize lineW k p g f d s v0 v1 v2 v3 o l = Z at *
  generalize vW v0 v1 v2 v3 = V at *
  generalize lineTo (wK k) (fK k) p (fldW g f d s v0 v1 v2 v3 o l) = T at *
  generalize fldW g f d s v0 v1 v2 v3 o l = q at *
  unfold stN at HO ⊢
  dsimp only at HO
  generalize wK k = U at *
  generalize fK k = F at *
  unfold stCells at *
  dsimp only at *
  have HB0 := Lk.mk (below_alloc (Below.refl w.heap.size w) (.cells #[.int .u8 k, .int .i64 (p : Int), .int .i64 (g : Int), .int .i64 (f : Int), .int .i64 (d : Int), .int .i64 (s : Int), .int .u8 v0, .int .u64 (v1 : Int), .int .i64 (v2 : Int), .int .i64 (v3 : Int), .int .u8 (o : Int), .slice A l.length c] 49))
  have HBX := Lk.mk (blk_new w (.cells #[.int .u8 k, .int .i64 (p : Int), .int .i64 (g : Int), .int .i64 (f : Int), .int .i64 (d : Int), .int .i64 (s : Int), .int .u8 v0, .int .u64 (v1 : Int), .int .i64 (v2 : Int), .int .i64 (v3 : Int), .int .u8 (o : Int), .slice A l.length c] 49))
  go_enter Tryz.func18, Tryz.ntmps18
  go_wp2_with (go_at_call 31; (with_reducible refine (HO.out _).mono ?_); rintro e w1 ⟨rfl, hb⟩; have HB := Lk.mk (below_alloc (below_then HB0.out HB0.out.size hb) (.cells #[.string U, .string F] 73)); have HX := Lk.mk (blk_alloc (blk_below HBX.out hb) (.cells #[.string U, .string F] 73)); have HFO := Lk.mk (blk_new w1 (.cells #[.string U, .string F] 73)); clear hb)
  have HXd := Lk.mk (blk_drew HX.out)
  have HFd := Lk.mk (blk_drew HFO.out)
  have HBd := Lk.mk (below_drew1 HB.out)
  have HSS := Lk.mk (show ∀ W : World, W.heap[w.heap.size]? = some (.cells #[.int .u8 k, .int .i64 (p : Int), .int .i64 (g : Int), .int .i64 (f : Int), .int .i64 (d : Int), .int .i64 (s : Int), .int .u8 v0, .int .u64 (v1 : Int), .int .i64 (v2 : Int), .int .i64 (v3 : Int), .int .u8 (o : Int), .slice A l.length c] 49 (0, 0)) → W.heap[w1.heap.size]? = some (.cells #[.string U, .string F] 73 (0, 0)) → W.cell? ⟨w1.heap.size, 0, none⟩ = some (.string U) ∧ W.cell? ⟨w.heap.size, 1, none⟩ = some (.int .i64 (p : Int)) from fun W h h' => ⟨(blk_cell h' 0).trans rfl, (blk_cell h 1).trans rfl⟩)
  go_region_held3 (fun W' => W'.cell? ⟨w1.heap.size, 0, none⟩ = some (.string U) ∧ W'.cell? ⟨w.heap.size, 1, none⟩ = some (.int .i64 (p : Int))) (first | with_reducible exact HSS.out _ HXd.out HFd.out | with_reducible exact HSS.out _ HX2.out HF2.out | with_reducible exact HSS.out _ (blk_alloc HX2.out _) (blk_alloc HF2.out _)) (first
    | (go_at_call 35; (with_reducible refine (HND.out p hp _ HBd.out).mono ?_); rintro e w2 ⟨rfl, hb⟩; have HX2 := Lk.mk (blk_below HXd.out hb); have HF2 := Lk.mk (blk_below HFd.out hb); have HB2 := Lk.mk (below_then HBd.out HBd.out.size hb); clear hb))
  have HR3 := Lk.mk (OwnW.lit w2 w.heap.size [U, dec p] HB2.out.size (by simp))
  have HB3 := Lk.mk (below_alloc HB2.out (.cells ([U, dec p].map Value.string).toArray 9))
  have HX3 := Lk.mk (blk_alloc HX2.out (.cells ([U, dec p].map Value.string).toArray 9))
  have HF3 := Lk.mk (blk_alloc HF2.out (.cells ([U, dec p].map Value.string).toArray 9))
  simp only [List.map_cons, List.map_nil, List.length_cons, List.length_nil] at HR3 HB3 HX3 HF3
  have hf1 := (blk_cell HF3.out 1).trans rfl
  clear HX HB HFO HXd HFd HBd HSS HX2 HF2 HB0 HBX HO
  generalize hw3 : w2.alloc (.cells [Value.string U, Value.string (dec p)].toArray 9) = w3 at *
  go_wp2
  have HLT3 := Lk.mk (blk_lt HX3.out)
  have HXs := Lk.mk ((start_at w3 F w.heap.size HLT3.out).trans HX3.out)
  have HITs := Lk.mk (start_it w3 F)
  have HRs := Lk.mk (OwnW.start F HR3.out)
  have HBs := Lk.mk (start_below F HB3.out)
  have HBX := Lk.mk HB3.out.size
  clear hw3 HR3 HB3 HX3 HF3 hf1 HB2
  generalize w3.iter F 0 = ws at *
  generalize w3.heap.size = it at *
  go_loopg [5] F.size (fun gg v5 wr => ∃ i : Nat, Lk (i ≤ F.size ∧ F.size - i ≤ gg) ∧ Lk (OwnW wr w.heap.size v5 (T i)) ∧ Lk (wr.heap[w.heap.size]? = some (.cells #[.int .u8 k, .int .i64 (p : Int), .int .i64 (g : Int), .int .i64 (f : Int), .int .i64 (d : Int), .int .i64 (s : Int), .int .u8 v0, .int .u64 (v1 : Int), .int .i64 (v2 : Int), .int .i64 (v3 : Int), .int .u8 (o : Int), .slice A l.length c] 49 (0, 0))) ∧ Lk (wr.heap[it]? = some (.stringIter F i)) ∧ Lk (Below w.heap.size w wr))
  case atStart => exact ⟨0, ⟨Nat.zero_le _, Nat.le_refl _⟩, ⟨by rw [HT0.out]; exact HRs.out⟩, HXs, HITs, HBs⟩
  case round =>
    clear HXs HITs HRs HBs HT0
    obtain ⟨i, HI, HR, HX, HIT, HB⟩ := hrel
    have hi := HI.out
    by_cases hlt : i < F.size
    · have ha := HFF.out i hlt
      have hnx := fun ty => Lib.run_next_ascii_at (P := Tryz.prog) wr it F i ty HIT.out hlt ha
      obtain ⟨t, ht⟩ : ∃ t, t = (F[i]'hlt).toNat := ⟨_, rfl⟩
      have HNX := Lk.mk (HNX0.out i hlt)
      rw [← ht] at hnx HNX ha
      have HI2 := Lk.mk (show i + 1 ≤ F.size ∧ F.size - (i + 1) < F.size - i by omega)
      clear ht hi ha HFF HNX0
      have HX1 := Lk.mk ((iter_far wr it F (i + 1) w.heap.size (Nat.ne_of_lt HLT3.out)).trans HX.out)
      have HIT1 := Lk.mk (Lib.iterAt_heap wr it F i (i + 1) HIT.out)
      have HR1 := Lk.mk (OwnW.iter (q := i + 1) HR.out HIT.out)
      have HB1 := Lk.mk (iter_below it F (i + 1) HB.out HBX.out)
      clear HX HIT HR HB
      have HX := HX1
      have HIT := HIT1
      have HR := HR1
      have HB := HB1
      clear HX1 HIT1 HR1 HB1
      generalize wr.iterAt it F (i + 1) = wi at *
      obtain ⟨⟨b0, b1, b2, b3, b4, b5⟩, b6, b7, b8, b9, b10, b11⟩ := line_cells HX.out
      by_cases hc103 : t = 103
      · have htc : t = 103 := hc103
        clear hc103
        subst htc
        have HQ := Lk.mk (HNX.out.trans (congrArg (T i ++ ·) HQ103.out))
        clear HNX
        have HLN := Lk.mk (show (T i).length + [dec g].length ≤ 100000 from by have := HLT.out i (by have := HI2.out; omega); simp only [List.length_cons, List.length_nil]; omega)
        go_wp2_with (first
          | (go_at_call 35; (with_reducible refine (HND.out g hg _ HB.out).mono ?_); rintro e w3 ⟨rfl, hb⟩; have HR := Lk.mk (HR.out.below hb); have HX := Lk.mk (blk_below HX.out hb); have HIT := Lk.mk (iter_blk HIT.out hb); have HB := Lk.mk (below_then HB.out HB.out.size hb); clear hb)
          | (at_builtin
             refine app_words (w0 := w) w.heap.size rfl _ _ rfl u5 (T i) ([dec g]) w3.heap.size 1 1 rfl rfl rfl (HR.out.alloc _) (blk_new w3 _) (below_alloc HB.out _) (Nat.le_trans HB.out.size (by simp)) HLN.out ?_
             intro v4 w4 hown4 hb4 hst4
             have HR := Lk.mk hown4
             have HB := Lk.mk hb4
             have HX := Lk.mk (hst4 _ _ (blk_alloc HX.out _) (by intro cs h; injection h with _ h2; cases h2))
             have HIT := Lk.mk (hst4 _ _ (blk_alloc HIT.out _) (by intro cs h; cases h))
             clear hown4 hb4 hst4))
        go_roundg (F.size - (i + 1))
        case measure => have := HI2.out; have := HI.out; omega
        case rel => exact ⟨i + 1, ⟨HI2.out.1, Nat.le_refl _⟩, ⟨by rw [HQ.out]; exact HR.out⟩, ⟨HX.out⟩, ⟨HIT.out⟩, ⟨HB.out⟩⟩
      · skip
        by_cases hc102 : t = 102
        · have htc : t = 102 := hc102
          clear hc102
          subst htc
          have HQ := Lk.mk (HNX.out.trans (congrArg (T i ++ ·) HQ102.out))
          clear HNX
          have HLN := Lk.mk (show (T i).length + [dec f].length ≤ 100000 from by have := HLT.out i (by have := HI2.out; omega); simp only [List.length_cons, List.length_nil]; omega)
          go_wp2_with (first
            | (go_at_call 35; (with_reducible refine (HND.out f hf _ HB.out).mono ?_); rintro e w3 ⟨rfl, hb⟩; have HR := Lk.mk (HR.out.below hb); have HX := Lk.mk (blk_below HX.out hb); have HIT := Lk.mk (iter_blk HIT.out hb); have HB := Lk.mk (below_then HB.out HB.out.size hb); clear hb)
            | (at_builtin
               refine app_words (w0 := w) w.heap.size rfl _ _ rfl u5 (T i) ([dec f]) w3.heap.size 1 1 rfl rfl rfl (HR.out.alloc _) (blk_new w3 _) (below_alloc HB.out _) (Nat.le_trans HB.out.size (by simp)) HLN.out ?_
               intro v4 w4 hown4 hb4 hst4
               have HR := Lk.mk hown4
               have HB := Lk.mk hb4
               have HX := Lk.mk (hst4 _ _ (blk_alloc HX.out _) (by intro cs h; injection h with _ h2; cases h2))
               have HIT := Lk.mk (hst4 _ _ (blk_alloc HIT.out _) (by intro cs h; cases h))
               clear hown4 hb4 hst4))
          go_roundg (F.size - (i + 1))
          case measure => have := HI2.out; have := HI.out; omega
          case rel => exact ⟨i + 1, ⟨HI2.out.1, Nat.le_refl _⟩, ⟨by rw [HQ.out]; exact HR.out⟩, ⟨HX.out⟩, ⟨HIT.out⟩, ⟨HB.out⟩⟩
        · skip
          by_cases hc100 : t = 100
          · have htc : t = 100 := hc100
            clear hc100
            subst htc
            have HQ := Lk.mk (HNX.out.trans (congrArg (T i ++ ·) HQ100.out))
            clear HNX
            have HLN := Lk.mk (show (T i).length + [dec d, dec s].length ≤ 100000 from by have := HLT.out i (by have := HI2.out; omega); simp only [List.length_cons, List.length_nil]; omega)
            have HXd := Lk.mk (blk_drew HX.out)
            have HBd := Lk.mk (below_drew1 HB.out)
            have HITd := Lk.mk (iter_drew HIT.out)
            have HRd := Lk.mk (own_drew HR.out)
            have HSS := Lk.mk (show ∀ W : World, W.heap[w.heap.size]? = some (.cells #[.int .u8 k, .int .i64 (p : Int), .int .i64 (g : Int), .int .i64 (f : Int), .int .i64 (d : Int), .int .i64 (s : Int), .int .u8 v0, .int .u64 (v1 : Int), .int .i64 (v2 : Int), .int .i64 (v3 : Int), .int .u8 (o : Int), .slice A l.length c] 49 (0, 0)) → W.cell? ⟨w.heap.size, 4, none⟩ = some (.int .i64 (d : Int)) ∧ W.cell? ⟨w.heap.size, 5, none⟩ = some (.int .i64 (s : Int)) from fun W h => ⟨(blk_cell h 4).trans rfl, (blk_cell h 5).trans rfl⟩)
            clear HX HB HIT HR
            go_wp2
            go_region_held3 (fun W' => W'.cell? ⟨w.heap.size, 4, none⟩ = some (.int .i64 (d : Int)) ∧ W'.cell? ⟨w.heap.size, 5, none⟩ = some (.int .i64 (s : Int))) (first | with_reducible exact HSS.out _ HXd.out | with_reducible exact HSS.out _ HX.out | with_reducible exact HSS.out _ HX4.out | with_reducible exact HSS.out _ (blk_alloc HX4.out _) | with_reducible exact HSS.out _ HX6.out) (first
              | (go_at_call 35; (with_reducible refine (HND.out d hd _ HBd.out).mono ?_); rintro e w3 ⟨rfl, hb⟩; have HR := Lk.mk (OwnW.below HRd.out hb); have HX := Lk.mk (blk_below HXd.out hb); have HIT := Lk.mk (iter_blk HITd.out hb); have HB := Lk.mk (below_then HBd.out HBd.out.size hb); clear hb)
              | (go_at_call 35; (with_reducible refine (HND.out s hs _ HB.out).mono ?_); rintro e w4 ⟨rfl, hb⟩; have HR4 := Lk.mk (OwnW.below HR.out hb); have HX4 := Lk.mk (blk_below HX.out hb); have HIT4 := Lk.mk (iter_blk HIT.out hb); have HB4 := Lk.mk (below_then HB.out HB.out.size hb); clear hb)
              | (go_at_call 35; (with_reducible refine (HND.out s hs _ HBd.out).mono ?_); rintro e w3 ⟨rfl, hb⟩; have HR := Lk.mk (OwnW.below HRd.out hb); have HX := Lk.mk (blk_below HXd.out hb); have HIT := Lk.mk (iter_blk HITd.out hb); have HB := Lk.mk (below_then HBd.out HBd.out.size hb); clear hb)
              | (go_at_call 35; (with_reducible refine (HND.out d hd _ HB.out).mono ?_); rintro e w4 ⟨rfl, hb⟩; have HR4 := Lk.mk (OwnW.below HR.out hb); have HX4 := Lk.mk (blk_below HX.out hb); have HIT4 := Lk.mk (iter_blk HIT.out hb); have HB4 := Lk.mk (below_then HB.out HB.out.size hb); clear hb)
              | (refine app_step (w0 := w) w.heap.size (by rfl) _ _ (by rfl) u5 (T i) [dec d, dec s] w4.heap.size 2 2 (by rfl) (by rfl) rfl (HR4.out.alloc _) (blk_new w4 _) (below_alloc HB4.out _) (Nat.le_trans HB4.out.size (by simp)) HLN.out ?_
                 intro v6 w6 hown6 hb6 hst6
                 have HR6 := Lk.mk hown6
                 have HB6 := Lk.mk hb6
                 have HX6 := Lk.mk (hst6 _ _ (blk_alloc HX4.out _) (by intro cs h; injection h with _ h2; cases h2))
                 have HIT6 := Lk.mk (hst6 _ _ (blk_alloc HIT4.out _) (by intro cs h; cases h))
                 clear hown6 hb6 hst6))
            all_goals
              have HX := HX6
              have HB := HB6
              have HIT := HIT6
              have HR := HR6
              go_wp2
              go_roundg (F.size - (i + 1))
              case measure => have := HI2.out; have := HI.out; omega
              case rel => exact ⟨i + 1, ⟨HI2.out.1, Nat.le_refl _⟩, ⟨by rw [HQ.out]; exact HR.out⟩, ⟨HX.out⟩, ⟨HIT.out⟩, ⟨HB.out⟩⟩
          · skip
            by_cases hc118 : t = 118
            · have htc : t = 118 := hc118
              clear hc118
              subst htc
              have HQ := Lk.mk (HNX.out.trans (congrArg (T i ++ ·) HQ118.out))
              clear HNX
              have HLN := Lk.mk (show (T i).length + V.length ≤ 100000 from by have := HLT.out i (by have := HI2.out; omega); have := HVL.out; omega)
              go_wp2_with (first
                | (go_at_call 36; (with_reducible refine (HVA.out _ HB.out).mono ?_); rintro e w3 ⟨g3, rfl, HWA, hg3, hb⟩; have HR := Lk.mk (HR.out.below hb); have HX := Lk.mk (blk_below HX.out hb); have HIT := Lk.mk (iter_blk HIT.out hb); have HB := Lk.mk (below_then HB.out HB.out.size hb); clear hb)
                | (at_builtin
                   refine app_words (w0 := w) w.heap.size rfl _ _ rfl u5 (T i) (V) g3 V.length V.length rfl rfl rfl HR.out HWA HB.out HB.out.size HLN.out ?_
                   intro v4 w4 hown4 hb4 hst4
                   have HR := Lk.mk hown4
                   have HB := Lk.mk hb4
                   have HX := Lk.mk (hst4 _ _ HX.out (by intro cs h; injection h with _ h2; cases h2))
                   have HIT := Lk.mk (hst4 _ _ HIT.out (by intro cs h; cases h))
                   clear hown4 hb4 hst4))
              go_roundg (F.size - (i + 1))
              case measure => have := HI2.out; have := HI.out; omega
              case rel => exact ⟨i + 1, ⟨HI2.out.1, Nat.le_refl _⟩, ⟨by rw [HQ.out]; exact HR.out⟩, ⟨HX.out⟩, ⟨HIT.out⟩, ⟨HB.out⟩⟩
            · skip
              by_cases hc98 : t = 98
              · have htc : t = 98 := hc98
                clear hc98
                subst htc
                have HQ := Lk.mk (HNX.out.trans (congrArg (T i ++ ·) HQ98.out))
                clear HNX
                have HLN := Lk.mk (show (T i).length + [tx v1].length ≤ 100000 from by have := HLT.out i (by have := HI2.out; omega); simp only [List.length_cons, List.length_nil]; omega)
                go_wp2_with (first
                  | (go_at_call 37; (with_reducible refine (HTX.out _ HB.out).mono ?_); rintro e w3 ⟨rfl, hb⟩; have HR := Lk.mk (HR.out.below hb); have HX := Lk.mk (blk_below HX.out hb); have HIT := Lk.mk (iter_blk HIT.out hb); have HB := Lk.mk (below_then HB.out HB.out.size hb); clear hb)
                  | (at_builtin
                     refine app_words (w0 := w) w.heap.size rfl _ _ rfl u5 (T i) ([tx v1]) w3.heap.size 1 1 rfl rfl rfl (HR.out.alloc _) (blk_new w3 _) (below_alloc HB.out _) (Nat.le_trans HB.out.size (by simp)) HLN.out ?_
                     intro v4 w4 hown4 hb4 hst4
                     have HR := Lk.mk hown4
                     have HB := Lk.mk hb4
                     have HX := Lk.mk (hst4 _ _ (blk_alloc HX.out _) (by intro cs h; injection h with _ h2; cases h2))
                     have HIT := Lk.mk (hst4 _ _ (blk_alloc HIT.out _) (by intro cs h; cases h))
                     clear hown4 hb4 hst4))
                go_roundg (F.size - (i + 1))
                case measure => have := HI2.out; have := HI.out; omega
                case rel => exact ⟨i + 1, ⟨HI2.out.1, Nat.le_refl _⟩, ⟨by rw [HQ.out]; exact HR.out⟩, ⟨HX.out⟩, ⟨HIT.out⟩, ⟨HB.out⟩⟩
              · skip
                by_cases hc111 : t = 111
                · have htc : t = 111 := hc111
                  clear hc111
                  subst htc
                  have HQ := Lk.mk (HNX.out.trans (congrArg (T i ++ ·) HQ111.out))
                  clear HNX
                  have HLN := Lk.mk (show (T i).length + [dec o].length ≤ 100000 from by have := HLT.out i (by have := HI2.out; omega); simp only [List.length_cons, List.length_nil]; omega)
                  have hwo : IntKind.i64.wrap (o : Int) = (o : Int) := IntWalk.i64_in _ (by omega)
                  go_wp2_with (first
                    | (go_at_call 35; (with_reducible refine (HND.out o (Nat.le_trans ho (by decide)) _ HB.out).mono ?_); rintro e w3 ⟨rfl, hb⟩; have HR := Lk.mk (HR.out.below hb); have HX := Lk.mk (blk_below HX.out hb); have HIT := Lk.mk (iter_blk HIT.out hb); have HB := Lk.mk (below_then HB.out HB.out.size hb); clear hb)
                    | (at_builtin
                       refine app_words (w0 := w) w.heap.size rfl _ _ rfl u5 (T i) ([dec o]) w3.heap.size 1 1 rfl rfl rfl (HR.out.alloc _) (blk_new w3 _) (below_alloc HB.out _) (Nat.le_trans HB.out.size (by simp)) HLN.out ?_
                       intro v4 w4 hown4 hb4 hst4
                       have HR := Lk.mk hown4
                       have HB := Lk.mk hb4
                       have HX := Lk.mk (hst4 _ _ (blk_alloc HX.out _) (by intro cs h; injection h with _ h2; cases h2))
                       have HIT := Lk.mk (hst4 _ _ (blk_alloc HIT.out _) (by intro cs h; cases h))
                       clear hown4 hb4 hst4))
                  go_roundg (F.size - (i + 1))
                  case measure => have := HI2.out; have := HI.out; omega
                  case rel => exact ⟨i + 1, ⟨HI2.out.1, Nat.le_refl _⟩, ⟨by rw [HQ.out]; exact HR.out⟩, ⟨HX.out⟩, ⟨HIT.out⟩, ⟨HB.out⟩⟩
                · skip
                  by_cases hc115 : t = 115
                  · have htc : t = 115 := hc115
                    clear hc115
                    subst htc
                    have HQ := Lk.mk (HNX.out.trans (congrArg (T i ++ ·) HQ115.out))
                    clear HNX
                    have HLN := Lk.mk (show (T i).length + [dec d].length ≤ 100000 from by have := HLT.out i (by have := HI2.out; omega); simp only [List.length_cons, List.length_nil]; omega)
                    go_wp2_with (first
                      | (go_at_call 35; (with_reducible refine (HND.out d hd _ HB.out).mono ?_); rintro e w3 ⟨rfl, hb⟩; have HR := Lk.mk (HR.out.below hb); have HX := Lk.mk (blk_below HX.out hb); have HIT := Lk.mk (iter_blk HIT.out hb); have HB := Lk.mk (below_then HB.out HB.out.size hb); clear hb)
                      | (at_builtin
                         refine app_words (w0 := w) w.heap.size rfl _ _ rfl u5 (T i) ([dec d]) w3.heap.size 1 1 rfl rfl rfl (HR.out.alloc _) (blk_new w3 _) (below_alloc HB.out _) (Nat.le_trans HB.out.size (by simp)) HLN.out ?_
                         intro v4 w4 hown4 hb4 hst4
                         have HR := Lk.mk hown4
                         have HB := Lk.mk hb4
                         have HX := Lk.mk (hst4 _ _ (blk_alloc HX.out _) (by intro cs h; injection h with _ h2; cases h2))
                         have HIT := Lk.mk (hst4 _ _ (blk_alloc HIT.out _) (by intro cs h; cases h))
                         obtain ⟨⟨b0, b1, b2, b3, b4, b5⟩, b6, b7, b8, b9, b10, b11⟩ := line_cells HX.out
                         clear hown4 hb4 hst4))
                    go_loopg [5, 91] l.length (fun gg2 v5 v91 wr => ∃ j : Nat, v91 = .int .i64 (j : Int) ∧ Lk (j ≤ l.length ∧ l.length - j ≤ gg2) ∧ Lk (OwnW wr w.heap.size v5 (T i ++ dec d :: (l.take j).map dec)) ∧ Lk (wr.heap[w.heap.size]? = some (.cells #[.int .u8 k, .int .i64 (p : Int), .int .i64 (g : Int), .int .i64 (f : Int), .int .i64 (d : Int), .int .i64 (s : Int), .int .u8 v0, .int .u64 (v1 : Int), .int .i64 (v2 : Int), .int .i64 (v3 : Int), .int .u8 (o : Int), .slice A l.length c] 49 (0, 0))) ∧ Lk (wr.heap[it]? = some (.stringIter F (i + 1))) ∧ Lk (Below w.heap.size w wr))
                    case atStart => exact ⟨0, rfl, ⟨Nat.zero_le _, Nat.le_refl _⟩, ⟨by simpa using HR.out⟩, HX, HIT, HB⟩
                    case round =>
                      clear HX HIT HR HB
                      obtain ⟨j, rfl, HJJ, HR, HX, HIT, HB⟩ := hrel
                      have hjj := HJJ.out
                      by_cases hj : j < l.length
                      · have hjz : (j : Int) < (l.length : Int) := by omega
                        obtain ⟨y, hy⟩ : ∃ y, y = l[j]'hj := ⟨_, rfl⟩
                        have hym : y ≤ 1000000 := hy ▸ hla _ (List.getElem_mem hj)
                        have hrr := (HRS.out _ HB.out).2.2 (by omega)
                        obtain ⟨ad, hA, hc⟩ := hrr
                        have hcj := hc j hj
                        rw [List.getD_eq_getElem?_getD, List.getElem?_map, List.getElem?_eq_getElem hj, ← hy] at hcj
                        simp only [Option.map_some, Option.getD_some] at hcj
                        have HTK := Lk.mk (show T i ++ dec d :: (l.take (j + 1)).map dec = (T i ++ dec d :: (l.take j).map dec) ++ [dec y] by rw [List.take_add_one, List.getElem?_eq_getElem hj, ← hy]; simp)
                        have HJ2 := Lk.mk (show j + 1 ≤ l.length ∧ l.length - (j + 1) < l.length - j by omega)
                        have HLN := Lk.mk (show (T i ++ dec d :: (l.take j).map dec).length + [dec y].length ≤ 100000 from by have := HLT.out i (by have := HI2.out; omega); simp only [List.length_append, List.length_cons, List.length_nil, List.length_map, List.length_take]; omega)
                        clear hc hy hjj
                        subst hA
                        have hjw : IntKind.i64.wrap ((j : Int) + 1) = ((j + 1 : Nat) : Int) := (IntWalk.i64_in _ (by omega)).trans (by omega)
                        go_wp2_with (first
                          | (go_at_call 35; (with_reducible refine (HND.out y hym _ HB.out).mono ?_); rintro e w3 ⟨rfl, hb⟩; have HR := Lk.mk (HR.out.below hb); have HX := Lk.mk (blk_below HX.out hb); have HIT := Lk.mk (iter_blk HIT.out hb); have HB := Lk.mk (below_then HB.out HB.out.size hb); clear hb)
                          | (at_builtin
                             refine app_words (w0 := w) w.heap.size rfl _ _ rfl u5 (T i ++ dec d :: (l.take j).map dec) ([dec y]) w3.heap.size 1 1 rfl rfl rfl (HR.out.alloc _) (blk_new w3 _) (below_alloc HB.out _) (Nat.le_trans HB.out.size (by simp)) HLN.out ?_
                             intro v4 w4 hown4 hb4 hst4
                             have HR := Lk.mk hown4
                             have HB := Lk.mk hb4
                             have HX := Lk.mk (hst4 _ _ (blk_alloc HX.out _) (by intro cs h; injection h with _ h2; cases h2))
                             have HIT := Lk.mk (hst4 _ _ (blk_alloc HIT.out _) (by intro cs h; cases h))
                             clear hown4 hb4 hst4))
                        go_roundg (l.length - (j + 1))
                        case measure => have := HJ2.out; have := HJJ.out; omega
                        case rel => exact ⟨j + 1, by first | rfl | go_num, ⟨HJ2.out.1, Nat.le_refl _⟩, ⟨by rw [HTK.out]; exact HR.out⟩, ⟨HX.out⟩, ⟨HIT.out⟩, ⟨HB.out⟩⟩
                      · have hjz : ¬ (j : Int) < (l.length : Int) := by omega
                        have hjl : j = l.length := by omega
                        subst hjl
                        rw [List.take_of_length_le (Nat.le_refl _)] at HR
                        go_wp2
                        go_roundg (F.size - (i + 1))
                        case measure => have := HI2.out; have := HI.out; omega
                        case rel => exact ⟨i + 1, ⟨HI2.out.1, Nat.le_refl _⟩, ⟨by rw [HQ.out]; exact HR.out⟩, ⟨HX.out⟩, ⟨HIT.out⟩, ⟨HB.out⟩⟩
                  · skip
                    have n103 : ((t : Int) == 103) = false := beq_false_of_ne (by omega)
                    have n102 : ((t : Int) == 102) = false := beq_false_of_ne (by omega)
                    have n100 : ((t : Int) == 100) = false := beq_false_of_ne (by omega)
                    have n118 : ((t : Int) == 118) = false := beq_false_of_ne (by omega)
                    have n98 : ((t : Int) == 98) = false := beq_false_of_ne (by omega)
                    have n111 : ((t : Int) == 111) = false := beq_false_of_ne (by omega)
                    have n115 : ((t : Int) == 115) = false := beq_false_of_ne (by omega)
                    have HQ := Lk.mk (HNX.out.trans (by rw [HQN.out t hc103 hc102 hc100 hc118 hc98 hc111 hc115, List.append_nil]))
                    clear HNX
                    go_wp2
                    go_roundg (F.size - (i + 1))
                    case measure => have := HI2.out; have := HI.out; omega
                    case rel => exact ⟨i + 1, ⟨HI2.out.1, Nat.le_refl _⟩, ⟨by rw [HQ.out]; exact HR.out⟩, ⟨HX.out⟩, ⟨HIT.out⟩, ⟨HB.out⟩⟩
    · obtain rfl : i = F.size := by omega
      have hnx := fun ty => Lib.run_next_end_at (P := Tryz.prog) wr it F F.size ty HIT.out (Nat.lt_irrefl _)
      rw [HTE.out] at HR
      clear hi hlt
      go_wp2_with (go_at_call 38; (with_reducible refine ((join_own HR.out HLZ.out.1 HLZ.out.2 HJ.out)).mono ?_); rintro e w9 ⟨rfl, hb⟩; have HB9 := Lk.mk (below_then HB.out HB.out.size hb); clear hb)
      go_ret
      exact ⟨rfl, HB9.out⟩
end Go.Proofs.YtpnklpjjbpheeaaGreatDoor
