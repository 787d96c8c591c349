/-
  The walk of fns.New; conditions: the functions read as told.
-/
import Derived.Test.YtbikdngpannekaaDoorBg
import Derived.Test.YtbikdngpannekaaDoorBi
import Derived.Deep.RegionLaw
namespace Go.Proofs.YtbikdngpannekaaDoor
open Go.RowKit Go.Proofs.YtbikdngpannekaaDoorW.PrintWords

/-- an entry of a table: its size, its words, its pointer slots -/
def kE : Kd (Int × (List Int × List Int)) := Kd.pair (Kd.int .i64) (Kd.pair (Kd.slice 25 (Kd.int .u64)) (Kd.slice 3 (Kd.int .i64)))
def entryOf (f : Int × List Int) : Int × (List Int × List Int) := (f.1, (Bm.ofL (Bm.bitsL f.2 f.1), Bm.bitsL f.2 f.1))
/-- a table, that a pointer leads to -/
def TblAt (w : World) (p : Value) (ent : List (Int × (List Int × List Int))) : Prop := ∃ g A c, p = .pointer (some ⟨g, 0, none⟩) ∧ w.cell? ⟨g, 0, none⟩ = some (.slice A ent.length c) ∧ ent.length ≤ c ∧ kE.C w A ent.length ent
theorem TblAt.below {w w1 : World} {p : Value} {ent : List (Int × (List Int × List Int))} (h : TblAt w p ent) (hb : Below w.heap.size w w1) : TblAt w1 p ent := by
  obtain ⟨g, A, c, rfl, h1, h2, h3⟩ := h
  exact ⟨g, A, c, rfl, pw_cell_below hb h1, h2, Kd.C_below h3 hb⟩
def newOk (l : List (Int × List Int)) : Bool := decide (1 ≤ l.length) && decide (l.length ≤ 100) && mayAll l

set_option maxHeartbeats 1000000 in
theorem new_bad (A : Option Addr) (c : Nat) (l : List (Int × List Int)) (w : World) (hr : FnC w A l.length l) (hw : FnsOk l) (hT : Tab w) (hn : newOk l = false) :
    Calls Tryd.prog 18 #[.slice A l.length c] w fun e w' => e = .returned (.tuple #[.pointer none, .int .i64 1]) ∧ Below w.heap.size w w' := by
  have HM := Lk.mk (mayAll_any A c l w hr hw hT)
  have hm := hr.2.1
  have hn2 := hn
  unfold newOk at hn2
  clear hr hw hT hn
  by_cases h1 : l.length < 1
  · have h1z : (l.length : Int) < 1 := by omega
    clear hn2
    go_enter Tryd.func18, Tryd.ntmps18
    go_wp2
    go_ret2
    exact ⟨rfl, Below.refl _ _⟩
  · have h1z : ¬ (l.length : Int) < 1 := by omega
    by_cases h2 : 100 < l.length
    · have h2z : (100 : Int) < (l.length : Int) := by omega
      clear hn2
      go_enter Tryd.func18, Tryd.ntmps18
      go_wp2
      go_ret2
      exact ⟨rfl, Below.refl _ _⟩
    · have h2z : ¬ (100 : Int) < (l.length : Int) := by omega
      have h3 : mayAll l = false := by
        simp at hn2; exact hn2 (by omega) (by omega)
      rw [h3] at HM
      clear hn2 h3
      go_enter Tryd.func18, Tryd.ntmps18
      go_wp2_with (go_at_call 65; (with_reducible refine HM.out.mono ?_); rintro e w' ⟨rfl, hb⟩)
      go_ret2
      exact ⟨rfl, hb⟩

theorem entry_M {w2 w3 : World} {b B2 B3 m : Nat} {f : Int × List Int} {v2 v3 : Value} (h2 : w2.ownsRow B2 3 1 v2 (Bm.bitsL f.2 f.1).length (nums .i64 (Bm.bitsL f.2 f.1))) (hb : Below w2.heap.size w2 w3) (h3 : w3.ownsRow B3 25 1 v3 (Bm.ofL (Bm.bitsL f.2 f.1)).length (nums .u64 (Bm.ofL (Bm.bitsL f.2 f.1))))
    (hB2 : b ≤ B2) (hB3 : b ≤ B3) (hm2 : m ≤ B2) (hm3 : m ≤ B3) : kE.M w3 b (fun k => m ≤ k) (entryOf f) [.int .i64 f.1, v3, v2] :=
  ⟨[_], [_, _], rfl, rfl, [_], [_], rfl,
    ⟨v3, rfl, Kd.R_lower (Kd.R_of_own (h1 := fun _ => rfl) h3 (fun k hk => Nat.le_trans hm3 (own_base h3 k hk))) hB3⟩,
    ⟨v2, rfl, Kd.R_below (Kd.R_lower (Kd.R_of_own (h1 := fun _ => rfl) h2 (fun k hk => Nat.le_trans hm2 (own_base h2 k hk))) hB2) hb⟩⟩
theorem new_ne {wr : World} {g : Nat} {v x : Value} {xs : List (Int × (List Int × List Int))} {b : Nat} (HE : kE.R 109 wr b (fun _ => True) v xs) (HG : wr.heap[g]? = some (.cells #[x] 105 (0, 0))) : some g ≠ v.ownBlock := by
  intro e
  obtain ⟨_, _, _, q, hq, cells, hc⟩ := (Kd.R_bound HE).1 g e.symm
  rw [HG] at hc
  have : 105 = q := by injection hc with hc; injection hc
  exact (by decide : ∀ q, q ∈ 109 :: kE.E → 105 ≠ q) q hq this
theorem new_kept {wr w3 w4 : World} {g b : Nat} {v x : Value} {xs : List (Int × (List Int × List Int))} (HE : kE.R 109 wr b (fun _ => True) v xs) (HG : wr.heap[g]? = some (.cells #[x] 105 (0, 0))) (h3 : Below wr.heap.size wr w3) (hg : w3.grownBy w4 v.ownBlock) : w4.heap[g]? = some (.cells #[x] 105 (0, 0)) :=
  ((hg.block g (Nat.lt_of_lt_of_le (blk_lt HG) h3.size) (new_ne HE HG)).trans (h3.block g (blk_lt HG))).trans HG
theorem take_next {l : List (Int × List Int)} {kk : Nat} {f : Int × List Int} (h : kk < l.length) (hf : f = l.getD kk dF) : (l.take (kk + 1)).map entryOf = (l.take kk).map entryOf ++ [entryOf f] := by
  rw [List.take_add_one, List.map_append, hf, List.getD_eq_getElem?_getD, List.getElem?_eq_getElem h]; rfl
theorem infoE : (Tryd.prog.info? 109).map (fun i => (i.zero, i.size, i.bytes)) = some (some (.agg #[.int .i64 0, .slice none 0 0, .slice none 0 0]), 3, 56) := by kernel_rfl
set_option maxHeartbeats 2000000 in
theorem new_goodS (A : Option Addr) (c : Nat) (l : List (Int × List Int)) (w : World) (hr : FnC w A l.length l) (hw : FnsOk l) (hT : Tab w) (hn : newOk l = true) :
    Calls Tryd.prog 18 #[.slice A l.length c] w fun e w' => ∃ p, e = .returned (.tuple #[p, .int .i64 0]) ∧ (∀ W : World, (∀ k, w.heap.size ≤ k → k < w'.heap.size → W.heap[k]? = w'.heap[k]?) → TblAt W p (l.map entryOf)) ∧ Below w.heap.size w w' := by
  have hn2 := hn
  unfold newOk at hn2
  simp only [Bool.and_eq_true, decide_eq_true_eq] at hn2
  obtain ⟨⟨h1, h2⟩, h3⟩ := hn2
  have HM := Lk.mk (h3 ▸ mayAll_any A c l w hr hw hT)
  have h1z : ¬ (l.length : Int) < 1 := by omega
  have h2z : ¬ (100 : Int) < (l.length : Int) := by omega
  have HR := Lk.mk hr
  have HW := Lk.mk hw
  have HT := Lk.mk hT
  clear hr hw hT hn h3
  go_enter Tryd.func18, Tryd.ntmps18
  go_wp2_with (go_at_call 65; (with_reducible refine HM.out.mono ?_); rintro e w1 ⟨rfl, hb⟩; have HB1 := Lk.mk hb; clear hb)
  go_outline
  go_loopg [7, 25] l.length (fun gg _ v25 wr => ∃ (kk : Nat) (v : Value), kk ≤ l.length ∧ l.length - kk ≤ gg ∧ v25 = .int .i64 kk ∧ Lk (wr.heap[w1.heap.size]? = some (.cells #[v] 105 (0, 0))) ∧ Lk (kE.R 109 wr w1.heap.size (fun _ => True) v ((l.take kk).map entryOf)) ∧ Lk (Below w1.heap.size w1 wr))
  case atStart =>
    refine ⟨0, .slice none 0 0, by omega, by omega, rfl, ⟨?_⟩, ⟨Kd.R_nil _ _ _ _ _⟩, ⟨below_alloc (Below.refl _ _) _⟩⟩
    show (w1.heap.push _)[w1.heap.size]? = _
    rw [Array.getElem?_push_size]
  case round =>
    obtain ⟨kk, v, hk, hg, rfl, HG, HE, HB⟩ := hrel
    by_cases hlt : kk < l.length
    · obtain ⟨ad, A1, c1, rfl, hcell0, hcell1, hc1, hr1⟩ := ((HR.out.below HB1.out).below HB.out).at_ kk hlt
      have hltz : (kk : Int) < (l.length : Int) := by omega
      obtain ⟨f, hf⟩ : ∃ f, f = l.getD kk dF := ⟨_, rfl⟩
      rw [← hf] at hcell0 hcell1 hc1 hr1
      have HM := Lk.mk (show f ∈ l by rw [hf]; exact getD_mem _ hlt)
      have HF := Lk.mk hf
      have HW1 := Lk.mk (HW.out f HM.out)
      have H6 := Lk.mk (below_alloc (Below.refl wr.heap.size wr) (.cells #[.int .i64 f.1, .slice A1 f.2.length c1] 66))
      have HBits := Lk.mk (bits_any A1 c1 f.2 f.1 _ (hr1.below H6.out) HW1.out.1 HW1.out.2.1 (((HT.out.below HB1.out).below HB.out).below H6.out))
      clear hf hr1
      go_wp2_with (go_at_call 66; (with_reducible refine HBits.out.mono ?_); rintro e w2 ⟨v2, rfl, ho2, hb2⟩; have HO2 := Lk.mk ho2; have HB2 := Lk.mk hb2; clear ho2 hb2)
      obtain ⟨A2, c2, rfl, hr2⟩ := own_reads HO2.out
      have HB62 := Lk.mk (below_then H6.out H6.out.size HB2.out)
      have hgl := blk_lt HG.out
      have HG2 := Lk.mk (show w2.heap[w1.heap.size]? = some (.cells #[v] 105 (0, 0)) from (HB62.out.block _ hgl).trans HG.out)
      have HX2 := Lk.mk (show w2.heap[wr.heap.size]? = some (.cells #[.int .i64 f.1, .slice A1 f.2.length c1] 66 (0, 0)) from by
        refine (HB2.out.block _ (by show wr.heap.size < (wr.heap.push _).size; rw [Array.size_push]; omega)).trans ?_
        show (wr.heap.push _)[wr.heap.size]? = _
        rw [Array.getElem?_push_size])
      have hcv := blk_cell HG2.out 0
      have hcx := blk_cell HX2.out 0
      simp only [List.getElem?_toArray, List.getElem?_cons_zero] at hcv hcx
      have HV := Lk.mk (Kd.R_bound HE.out).1
      have HE2 := Lk.mk (Kd.R_below HE.out HB62.out)
      have HD := Lk.mk (below_drew (Below.refl w2.heap.size w2))
      have HOf := Lk.mk (of_any A2 c2 (Bm.bitsL f.2 f.1) w2.drew (hr2.below HD.out))
      have K0 := Lk.mk (show ∀ W, Below w2.drew.heap.size w2.drew W → W.cell? ⟨w1.heap.size, 0, none⟩ = some v ∧ W.cell? ⟨wr.heap.size, 0, none⟩ = some (.int .i64 f.1) from fun W hW => ⟨pw_cell_below hW (pw_cell_below HD.out hcv), pw_cell_below hW (pw_cell_below HD.out hcx)⟩)
      clear hr2 hc1
      set_option maxRecDepth 100000 in
      have h62 := HB62.out.size
      have hs1 : w1.heap.size ≤ (wr.alloc (.cells #[.int .i64 f.1, .slice A1 f.2.length c1] 66)).heap.size := by show _ ≤ (wr.heap.push _).size; rw [Array.size_push]; omega
      have hs2 : wr.heap.size ≤ (wr.alloc (.cells #[.int .i64 f.1, .slice A1 f.2.length c1] 66)).heap.size := by show _ ≤ (wr.heap.push _).size; rw [Array.size_push]; omega
      have HOK := Lk.mk (show ∀ k, wr.heap.size ≤ k → True ∧ some k ≠ v.ownBlock from fun k hk => ⟨trivial, fun e => by have := (HV.out k e.symm).2.2.1; omega⟩)
      have HBW := Lk.mk (show ∀ W, Below w2.drew.heap.size w2.drew W → Below w1.heap.size w1 W from fun W h => below_then (below_then HB.out HB.out.size HB62.out) (by omega) (below_then HD.out HD.out.size h))
      have HLN := Lk.mk (show (((l.take kk).map entryOf).length + 1) * 56 ≤ 140737488355328 from by rw [List.length_map, List.length_take]; omega)
      have hf2 : w2.drew.cell? ⟨w1.heap.size, 0, none⟩ = some v := (K0.out _ (Below.refl _ _)).1
      have hx2 : w2.drew.cell? ⟨wr.heap.size, 0, none⟩ = some (.int .i64 f.1) := (K0.out _ (Below.refl _ _)).2
      go_region_law (first
        | (go_simp; (with_reducible refine HOf.out.mono ?_); rintro e w3 ⟨v3, rfl, ho3, hb3⟩; dsimp only; obtain ⟨A3, c3, rfl, hr3⟩ := own_reads ho3; have hf3 := (K0.out _ hb3).1; have hx3 := (K0.out _ hb3).2; have hf3' := (K0.out _ (below_alloc hb3 (.cells #[.int .i64 f.1, .slice A3 (Bm.ofL (Bm.bitsL f.2 f.1)).length c3, .slice A2 (Bm.bitsL f.2 f.1).length c2] 109))).1; have hx3' := (K0.out _ (below_alloc hb3 (.cells #[.int .i64 f.1, .slice A3 (Bm.ofL (Bm.bitsL f.2 f.1)).length c3, .slice A2 (Bm.bitsL f.2 f.1).length c2] 109))).2)
        | (have HP := Lk.mk (entry_M (b := w1.heap.size) (m := wr.heap.size) HO2.out (HD.out.trans hb3) ho3 hs1 (by have : w2.drew.heap.size = w2.heap.size := rfl; omega) hs2 (by have : w2.drew.heap.size = w2.heap.size := rfl; omega))
           have HR4 := Lk.mk (Kd.R_below (Kd.R_below HE2.out HD.out) hb3)
           refine Kd.R_append_step (w0 := w1) kE w1.heap.size (by rfl) _ _ 103 109 _ 56 (by rfl) Tryd.underlying103 infoE rfl (by decide) (by decide) v _ (entryOf f) _ (fun _ => True) (fun k => wr.heap.size ≤ k) (by rfl) (by rfl) HP.out HOK.out (fun _ _ => trivial) HR4.out (HBW.out _ hb3) (HBW.out _ hb3).size HLN.out ?_
           intro v4 w4 hE4 hb4 hg4 hat4
           obtain ⟨A4, c4, rfl, hc4, hC4⟩ := Kd.R_reads hE4
           have HG4 := Lk.mk (new_kept HE.out HG.out (below_then HB62.out HB62.out.size (below_then HD.out HD.out.size hb3)) hg4)
           have hf4 := blk_cell HG4.out 0
           simp only [List.getElem?_toArray, List.getElem?_cons_zero] at hf4
           have hz4 := blk_frozen HG4.out 0))
      all_goals
        have HE4 := Lk.mk hE4
        have HB4 := Lk.mk hb4
        clear hE4 hb4 hg4 hat4 hC4
        go_wp2
        go_roundg (l.length - (kk + 1))
        case measure => omega
        case rel =>
          refine ⟨kk + 1, _, by omega, by omega, by go_num, ⟨blk_put HG4.out 0 _ rfl⟩, ⟨?_⟩, ⟨HB4.out.setCell (Nat.le_refl _) _⟩⟩
          rw [take_next hlt HF.out]
          have hE5 := HE4.out
          have hlen : ((l.take kk).map entryOf ++ [entryOf f]).length = kk + 1 := by rw [List.length_append, List.length_map, List.length_take, List.length_singleton]; omega
          rw [hlen] at hE5
          exact Kd.R_set hE5 HG4.out (by decide) 0 _
    · have hltz : ¬ (kk : Int) < (l.length : Int) := by omega
      obtain rfl : kk = l.length := by omega
      go_wp2
      go_ret2
      have HE2 := HE.out
      rw [List.take_length] at HE2
      refine ⟨_, rfl, ?_, below_then HB1.out HB1.out.size HB.out⟩
      intro W hW
      have hR := Kd.R_move (Kd.R_bound HE2) (fun k hk => hW k (Nat.le_trans HB1.out.size hk.2.1) hk.2.2.1)
      obtain ⟨A4, c4, e4, hc4, hC4⟩ := Kd.R_reads hR
      refine ⟨_, A4, c4, rfl, ?_, hc4, hC4⟩
      have h5 := blk_cell ((hW w1.heap.size HB1.out.size (blk_lt HG.out)).trans HG.out) 0
      rw [e4] at h5
      simpa using h5
theorem new_good (A : Option Addr) (c : Nat) (l : List (Int × List Int)) (w : World) (hr : FnC w A l.length l) (hw : FnsOk l) (hT : Tab w) (hn : newOk l = true) :
    Calls Tryd.prog 18 #[.slice A l.length c] w fun e w' => ∃ p, e = .returned (.tuple #[p, .int .i64 0]) ∧ TblAt w' p (l.map entryOf) ∧ Below w.heap.size w w' :=
  (new_goodS A c l w hr hw hT hn).mono fun _ w' ⟨p, he, ht, hb⟩ => ⟨p, he, ht w' (fun _ _ _ => rfl), hb⟩
end Go.Proofs.YtbikdngpannekaaDoor
