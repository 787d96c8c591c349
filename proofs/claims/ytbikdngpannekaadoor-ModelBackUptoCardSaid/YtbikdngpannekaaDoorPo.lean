/-
  The walk of the model's Call at any function; conditions: the row and the table read as told, the row is right.
-/
import Derived.Test.YtbikdngpannekaaDoorPh
namespace Go.Proofs.YtbikdngpannekaaDoor
open Go.RowKit Go.Proofs.YtbikdngpannekaaDoorW.PrintWords

/-- a new frame's slots, of which i are set -/
def newsTo (ptr : Int → Bool) (n i : Nat) : List Sl.Vl := (List.range n).map fun (j : Nat) => if decide (j < i) && !(ptr (j : Int)) then (1, 0, 0, 0) else (0, 0, 0, 0)
theorem newsTo_zero (ptr : Int → Bool) (n : Nat) : newsTo ptr n 0 = List.replicate n (0, 0, 0, 0) := by
  apply List.ext_getElem
  · simp [newsTo]
  · intro j h1 h2
    simp [newsTo]
theorem newsTo_len (ptr : Int → Bool) (n i : Nat) : (newsTo ptr n i).length = n := by simp [newsTo]
theorem newsTo_ptr {ptr : Int → Bool} {n i : Nat} (h : ptr (i : Int) = true) : newsTo ptr n (i + 1) = newsTo ptr n i := by
  apply List.ext_getElem
  · simp [newsTo]
  · intro j h1 h2
    simp only [newsTo, List.getElem_map, List.getElem_range]
    by_cases e : j = i
    · subst e; simp [h]
    · have : decide (j < i + 1) = decide (j < i) := decide_eq_decide.2 (by omega)
      rw [this]
theorem newsTo_set {ptr : Int → Bool} {n i : Nat} (h : ptr (i : Int) = false) : newsTo ptr n (i + 1) = (newsTo ptr n i).set i (1, 0, 0, 0) := by
  apply List.ext_getElem
  · simp [newsTo]
  · intro j h1 h2
    rw [List.getElem_set]
    simp only [newsTo, List.getElem_map, List.getElem_range]
    by_cases e : i = j
    · subst e; simp [h]
    · have : decide (j < i + 1) = decide (j < i) := decide_eq_decide.2 (by omega)
      rw [if_neg e, this]
theorem newsTo_get {ptr : Int → Bool} {n i : Nat} (h : i < n) : (newsTo ptr n i).getD i Sl.dVl = (0, 0, 0, 0) := by
  rw [List.getD_eq_getElem?_getD, List.getElem?_eq_getElem (by rw [newsTo_len]; exact h)]
  simp [newsTo]
theorem made_vls (W : World) (n : Nat) (hn : n ≤ 1048576) : ∃ MC : Array Value, (∀ w : World, (Instr.makeSlice 22 (.int .i64 (n : Int)) (.int .i64 (n : Int))).run Tryd.prog w = .ok (.slice (some ⟨w.heap.size, 0, none⟩) n n) (w.alloc (.cells MC 27))) ∧ kVl.R 27 (W.alloc (.cells MC 27)) W.heap.size (fun k => W.heap.size ≤ k) (.slice (some ⟨W.heap.size, 0, none⟩) n n) (List.replicate n (0, 0, 0, 0)) := by
  obtain ⟨i0, hi, hzz⟩ := Option.map_eq_some_iff.1 infoVl
  simp only [Prod.mk.injEq] at hzz
  obtain ⟨hz0, hz1, hz2⟩ := hzz
  refine ⟨madeCells (Value.agg #[.int .u8 0, .int .u64 0, .int .i64 0, .int .i64 0]).cells (n * 4), fun w => ?_, ?_⟩
  · have hr := run_make (P := Tryd.prog) w 22 27 i0 _ Tryd.underlying22 hi hz0 .i64 .i64 (n : Int) (n : Int) (by omega) (by omega) (by rw [hz2]; omega) (by omega)
    rw [Int.toNat_natCast, hz1] at hr
    exact hr
  · refine ⟨fun k hk => (show W.heap.size = k by simpa [Value.ownBlock] using hk) ▸ Nat.le_refl _, (madeCells (Value.agg #[.int .u8 0, .int .u64 0, .int .i64 0, .int .i64 0]).cells (n * 4)).toList, ?_, ?_⟩
    · have h2 := World.ownsRow_lit (base := W.heap.size) (e := 27) (size := 4) W (madeCells (Value.agg #[.int .u8 0, .int .u64 0, .int .i64 0, .int .i64 0]).cells (n * 4)) n (Nat.le_refl _) (by simp [maxLen]; omega) (by simp [size_madeCells])
      rw [List.length_replicate]
      exact h2
    · exact Kd.reps_made (z := .agg #[.int .u8 0, .int .u64 0, .int .i64 0, .int .i64 0]) rfl (by decide) (vl_zero _ _ _) n
set_option maxRecDepth 100000 in
set_option maxHeartbeats 2000000 in
theorem mcall1_any (q : Option Addr) (ent : List (Int × (List Int × List Int))) (f : Int) (n : Nat) (l : List Af) (B bf qr : Nat) (v : Value) (W : World) (hl2 : l.length < 1048576) (hn : n ≤ 1048576) (ht : TblOr W (.pointer q) ent) (hw : ∀ e ∈ ent, Bm.Words e.2.1) (hs : tSize ent f = (n : Int)) (hB : bf < B) (hB2 : B ≤ qr) (hbf : W.heap[bf]? = some (.cells #[.int .i64 f] 3 (0, 0))) (hq : W.heap[qr]? = some (.cells #[.pointer q, v] 130 (0, 0))) (hR : kAf.R 124 W B (fun k => k < qr) v l) :
    Calls Tryd.prog 85 #[.pointer (some ⟨qr, 0, none⟩), .pointer (some ⟨bf, 0, none⟩)] W fun e W' => HowL (fun l' => l' = l ++ [(f, newsTo (tPtr ent f) n n)]) (fun _ => False) (.pointer q) B qr W e W' := by
  obtain ⟨A, c, rfl, _, _⟩ := Kd.R_reads hR
  obtain ⟨MC, hmk, hM⟩ := made_vls W n hn
  have HSZ := Lk.mk (fun W' (hb : Below W.heap.size W W') => hs ▸ size_any (.pointer q) ent f W' (ht.below hb))
  have HPT := Lk.mk (fun W' (i : Int) (hb : Below W.heap.size W W') (hi : i ≤ 9223372036854775807) => ptr_any (.pointer q) ent f i W' (ht.below hb) hw hi)
  have HD := Lk.mk (below_drew (Below.refl W.heap.size W))
  have HD2 := Lk.mk (below_drew HD.out)
  have HQ := Lk.mk hq
  have HF := Lk.mk hbf
  have hqd := blk_drew hq
  have hfd := blk_drew hbf
  obtain ⟨q0, q1⟩ := cells2v hqd
  have f0 := blk_cell hfd 0
  obtain ⟨r0, r1⟩ := cells2v (blk_drew hqd)
  have s0 := blk_cell (blk_drew hfd) 0
  have hqa := blk_drew (blk_drew (blk_alloc hq (.cells MC 27)))
  have hfa := blk_drew (blk_drew (blk_alloc hbf (.cells MC 27)))
  obtain ⟨t0, t1⟩ := cells2v hqa
  have u0 := blk_cell hfa 0
  simp only [List.getElem?_toArray, List.getElem?_cons_zero] at f0 s0 u0
  have HBa := Lk.mk (below_drew (below_drew (below_alloc (Below.refl W.heap.size W) (.cells MC 27))))
  have HM0 := Lk.mk (show kVl.R 27 (W.alloc (.cells MC 27)).drew.drew W.heap.size (fun k => W.heap.size ≤ k) (.slice (some ⟨W.heap.size, 0, none⟩) n n) (newsTo (tPtr ent f) n 0) by rw [newsTo_zero]; exact Kd.R_drew (Kd.R_drew hM))
  have HR := Lk.mk hR
  have HLW := Lk.mk (blk_lt hq)
  have HOWN := Lk.mk (show ∀ k, (Value.slice A l.length c).ownBlock = some k → k < qr from fun k hk => hR.1 k hk)
  have HL2 := Lk.mk hl2
  have HBQ := Lk.mk hB2
  have HNN := Lk.mk hn
  have hnz : ¬ (n : Int) < 0 := by omega
  have hnm : n ≤ 9223372036854775807 := by omega
  clear hR ht hw hs hbf hq hqd hfd hl2 hB hB2 hqa hfa hM hn
  go_enter Tryd.func85, Tryd.ntmps85
  go_wp2
  go_region_held3 (fun W' => W'.cell? ⟨qr, 0, none⟩ = some (.pointer q) ∧ W'.cell? ⟨bf, 0, none⟩ = some (.int .i64 f)) (first | exact ⟨q0, f0⟩) (first
    | (go_at_call 82; (with_reducible refine (HSZ.out _ HD.out).mono ?_); rintro e w' ⟨rfl, hw⟩; obtain rfl := hw.symm; clear hw)
    | (go_at_call 86; (with_reducible refine (mmust_ok _ _).mono ?_); rintro e w' ⟨rfl, hw⟩; obtain rfl := hw.symm; clear hw))
  go_wp2
  go_region_held3 (fun W' => W'.cell? ⟨qr, 0, none⟩ = some (.pointer q) ∧ W'.cell? ⟨bf, 0, none⟩ = some (.int .i64 f)) (first | exact ⟨r0, s0⟩ | exact ⟨t0, u0⟩) (first
    | (go_at_call 82; (with_reducible refine (HSZ.out _ HD2.out).mono ?_); rintro e w' ⟨rfl, hw⟩; obtain rfl := hw.symm; clear hw))
  go_wp2
  go_loopg [22] n (fun gg v22 W3 => ∃ i : Nat, i ≤ n ∧ n - i ≤ gg ∧ v22 = .int .i64 i ∧ Lk (kVl.R 27 W3 W.heap.size (fun k => W.heap.size ≤ k) (.slice (some ⟨W.heap.size, 0, none⟩) n n) (newsTo (tPtr ent f) n i)) ∧ Lk (Below W.heap.size W W3))
  case atStart => exact ⟨0, by omega, by omega, rfl, HM0, HBa⟩
  case round =>
    obtain ⟨i, hi, hg, rfl, HM, HB⟩ := hrel
    obtain ⟨w3, rfl⟩ : ∃ w3 : World, w3 = wr := ⟨_, rfl⟩
    clear q0 q1 f0 r0 r1 s0 t0 t1 u0
    have HB3 := Lk.mk (below_drew HB.out)
    have HQ3 := Lk.mk (blk_below HQ.out HB3.out)
    have HF3 := Lk.mk (blk_below HF.out HB3.out)
    obtain ⟨q0, q1⟩ := cells2v HQ3.out
    have f0 := blk_cell HF3.out 0
    simp only [List.getElem?_toArray, List.getElem?_cons_zero] at f0
    by_cases hil : i < n
    · have hiz : (i : Int) < (n : Int) := by omega
      have HIL := Lk.mk hil
      have HC := Lk.mk (HPT.out w3.drew (i : Int) HB3.out (by have := HNN.out; omega))
      have HMd := Lk.mk (Kd.R_drew HM.out)
      cases hp : tPtr ent f (i : Int) with
      | true =>
        rw [hp] at HC
        have HN := Lk.mk (newsTo_ptr (n := n) hp)
        clear hp
        go_wp2
        go_region_held3 (fun W' => W'.cell? ⟨qr, 0, none⟩ = some (.pointer q) ∧ W'.cell? ⟨bf, 0, none⟩ = some (.int .i64 f)) (first | exact ⟨q0, f0⟩ | exact ⟨pw_cell_below HB4.out q0, pw_cell_below HB4.out f0⟩) (first
          | (go_at_call 87; (with_reducible refine (HC.out).mono ?_); rintro e w4 ⟨rfl, hb4⟩; have HB4 := Lk.mk hb4; clear hb4))
        go_wp2
        go_roundg (n - (i + 1))
        case measure => omega
        case rel => exact ⟨i + 1, by have := HIL.out; omega, by have := HIL.out; omega, (by have := HIL.out; have := HNN.out; go_num), ⟨by rw [HN.out]; exact Kd.R_below HMd.out HB4.out⟩, ⟨below_then HB3.out HB3.out.size HB4.out⟩⟩
      | false =>
        rw [hp] at HC
        have HN := Lk.mk (newsTo_set (n := n) hp)
        have HG := Lk.mk (newsTo_get (ptr := tPtr ent f) (i := i) hil)
        clear hp
        go_wp2
        go_region_held3 (fun W' => W'.cell? ⟨qr, 0, none⟩ = some (.pointer q) ∧ W'.cell? ⟨bf, 0, none⟩ = some (.int .i64 f)) (first | exact ⟨q0, f0⟩ | exact ⟨pw_cell_below HB4.out q0, pw_cell_below HB4.out f0⟩) (first
          | (go_at_call 87; (with_reducible refine (HC.out).mono ?_); rintro e w4 ⟨rfl, hb4⟩; have HB4 := Lk.mk hb4; clear hb4))
        have HM4 := Lk.mk (Kd.R_below HMd.out HB4.out)
        obtain ⟨cs, hcl, hcM, hcc, hcz⟩ := Kd.R_elem HM4.out Sl.dVl (i : Int) (by omega) (by have := HIL.out; omega)
        rw [Int.toNat_natCast, HG.out] at hcM
        rw [Int.toNat_natCast] at hcc hcz
        obtain ⟨y0, y', rfl, rfl, y1, y2, rfl, rfl, y3, y4, rfl, rfl, rfl⟩ := hcM
        have k0 := hcc 0 _ rfl
        have kz := hcz 0
        rw [Nat.add_zero, show kVl.sz = 4 from rfl] at k0 kz
        have HSG := Lk.mk (Kd.R_seg (c := [.int .u8 0, .int .u64 0, .int .i64 0, .int .i64 0]) (seg := [.int .u8 1]) (j := 0) (okp := fun _ => False) (x' := ((1, 0, 0, 0) : Sl.Vl)) HM4.out (i : Int) (by omega) (by have := HIL.out; omega) rfl (by rw [Int.toNat_natCast]; exact hcc) (by decide) ⟨[_], [_, _, _], rfl, rfl, ⟨[_], [_, _], rfl, rfl, ⟨[_], [_], rfl, rfl, rfl⟩⟩⟩ (fun _ h => h.elim))
        rw [Int.toNat_natCast, show kVl.sz = 4 from rfl, ← HN.out, show w4.setCells W.heap.size (i * 4 + 0) [.int .u8 1] = w4.setCell ⟨W.heap.size, i * 4, none⟩ (.int .u8 1) from rfl] at HSG
        have HBn := Lk.mk ((below_then HB3.out HB3.out.size HB4.out).setCell (p := ⟨W.heap.size, i * 4, none⟩) (Nat.le_refl _) (.int .u8 1))
        clear hcc hcz
        go_wp2
        go_roundg (n - (i + 1))
        case measure => omega
        case rel => exact ⟨i + 1, by have := HIL.out; omega, by have := HIL.out; omega, (by have := HIL.out; have := HNN.out; go_num), ⟨HSG.out.1⟩, HBn⟩
    · have hiz : ¬ (i : Int) < (n : Int) := by omega
      obtain rfl : i = n := by omega
      have HMd := Lk.mk (Kd.R_drew HM.out)
      have hsz : W.heap.size ≤ w3.heap.size := HB.out.size
      have hsd : w3.drew.heap.size = w3.heap.size := rfl
      have HSZ3 := Lk.mk hsz
      have HB0 := Lk.mk (show Below B W w3.drew from ⟨HB3.out.os, HB3.out.tape, HB3.out.output, by have := HLW.out; have := HBQ.out; omega, fun k hk => HB3.out.block k (by have := HLW.out; have := HBQ.out; omega)⟩)
      have HP := Lk.mk (af_M (b := B) (m := W.heap.size) (s := f) HMd.out (by have := HLW.out; have := HBQ.out; omega) (Nat.le_refl _))
      have HBS := Lk.mk (show B ≤ w3.drew.heap.size by have := HLW.out; have := HBQ.out; omega)
      have HOK := Lk.mk (show ∀ k, W.heap.size ≤ k → k ≠ qr ∧ some k ≠ (Value.slice A l.length c).ownBlock from fun k hk => ⟨by have := HLW.out; omega, fun e => by have := HOWN.out k e.symm; have := HLW.out; omega⟩)
      have HFR := Lk.mk (show ∀ k, w3.drew.heap.size ≤ k → k ≠ qr from fun k hk => by have := HLW.out; omega)
      have HRm := Lk.mk (Kd.R_mono (Kd.R_below HR.out HB3.out) (fun k hk => (Nat.ne_of_lt hk : k ≠ qr)))
      have HLN := Lk.mk (show (l.length + 1) * 32 ≤ 140737488355328 by have := HL2.out; omega)
      have HLQ := Lk.mk (show qr < w3.drew.heap.size by have := HLW.out; omega)
      have HNE := Lk.mk (show some qr ≠ (Value.slice A l.length c).ownBlock from fun e => by have := HOWN.out qr e.symm; omega)
      have hq3 := blk_below HQ.out HB.out
      have hf3 := blk_below HF.out HB.out
      obtain ⟨z0, z1⟩ := cells2v (blk_alloc hq3 (.cells #[.int .i64 f, .slice (some ⟨W.heap.size, 0, none⟩) i i] 124))
      have zf := blk_cell (blk_alloc hf3 (.cells #[.int .i64 f, .slice (some ⟨W.heap.size, 0, none⟩) i i] 124)) 0
      simp only [List.getElem?_toArray, List.getElem?_cons_zero] at zf
      clear hq3 hf3 hsz hsd hil
      go_wp2
      go_region_law (refine Kd.R_append_step (w0 := W) kAf B (by rfl) _ _ 68 124 _ 32 (by rfl) Tryd.underlying68 infoAf rfl (by decide) (by decide) (.slice A l.length c) l (f, newsTo (tPtr ent f) i i) _ (fun k => k ≠ qr) (fun k => W.heap.size ≤ k) (by rfl) (by rfl) HP.out HOK.out HFR.out HRm.out HB0.out HBS.out HLN.out ?_
                     intro v4 w4 hE4 hb4 hg4 hat4
                     obtain ⟨A4, c4, e4, hc4, hC4⟩ := Kd.R_reads hE4
                     rw [List.length_append, show [((f, newsTo (tPtr ent f) i i) : Af)].length = 1 from rfl] at e4
                     subst e4
                     have HG4 := Lk.mk ((hg4.block qr HLQ.out HNE.out).trans HQ3.out)
                     have hf4 := blk_cell HG4.out 1
                     simp only [List.getElem?_toArray, List.getElem?_cons_zero, List.getElem?_cons_succ] at hf4
                     have hz4 := blk_frozen HG4.out 1)
      all_goals
        have HE4 := Lk.mk hE4
        have HB4 := Lk.mk hb4
        clear hE4 hb4 hg4 hat4 hC4 hc4
        go_wp2
        simp [bodyPost, results, Tryd.results85]
        exact ⟨HB4.out.setCell (p := ⟨qr, 1, none⟩) HBQ.out _, .inl ⟨rfl, _, _, rfl, blk_put HG4.out 1 _ rfl, Kd.R_far HE4.out (fun k hk => hk) _⟩⟩
end Go.Proofs.YtbikdngpannekaaDoor
