/-
  Several texts as one.
-/
import Derived.Test.YtcepafllgjnngaaDoorK7
import Derived.Test.YtcepafllgjnngaaDoorPd
/-
  The walk of the model's Call at any function; conditions: the row and the table read as told, the row is right.
-/
namespace Go.Proofs.YtcepafllgjnngaaDoor
open Go.RowKit Go.Proofs.YtcepafllgjnngaaDoorW.PrintWords

/-- a new frame's slots, of which i are set -/
def newsTo (ptr : Int → Bool) (n i : Nat) : List Sl.Vl := (List.range n).map fun (j : Nat) => if decide (j < i) && !(ptr (j : Int)) then (1, 0, 0, 0) else (0, 0, 0, 0)
theorem newsTo_zero (ptr : Int → Bool) (n : Nat) : newsTo ptr n 0 = List.replicate n (0, 0, 0, 0) := by
  apply List.ext_getElem
  · simp [newsTo]
  · intro j h1 h2
    simp [newsTo]
theorem newsTo_len (ptr : Int → Bool) (n i : Nat) : (newsTo ptr n i).length = n := by simp [newsTo]
theorem newsTo_ptr {ptr : Int → Bool} {n i : Nat} (h : ptr (i : Int) = true) : newsTo ptr n (i + 1) = newsTo ptr n i := by
  apply List.ext_getElem
  · simp [newsTo]
  · intro j h1 h2
    simp only [newsTo, List.getElem_map, List.getElem_range]
    by_cases e : j = i
    · subst e; simp [h]
    · have : decide (j < i + 1) = decide (j < i) := decide_eq_decide.2 (by omega)
      rw [this]
theorem newsTo_set {ptr : Int → Bool} {n i : Nat} (h : ptr (i : Int) = false) : newsTo ptr n (i + 1) = (newsTo ptr n i).set i (1, 0, 0, 0) := by
  apply List.ext_getElem
  · simp [newsTo]
  · intro j h1 h2
    rw [List.getElem_set]
    simp only [newsTo, List.getElem_map, List.getElem_range]
    by_cases e : i = j
    · subst e; simp [h]
    · have : decide (j < i + 1) = decide (j < i) := decide_eq_decide.2 (by omega)
      rw [if_neg e, this]
theorem newsTo_get {ptr : Int → Bool} {n i : Nat} (h : i < n) : (newsTo ptr n i).getD i Sl.dVl = (0, 0, 0, 0) := by
  rw [List.getD_eq_getElem?_getD, List.getElem?_eq_getElem (by rw [newsTo_len]; exact h)]
  simp [newsTo]
theorem made_vls (W : World) (n : Nat) (hn : n ≤ 1048576) : ∃ MC : Array Value, (∀ w : World, (Instr.makeSlice 111 (.int .i64 (n : Int)) (.int .i64 (n : Int))).run Tryd.prog w = .ok (.slice (some ⟨w.heap.size, 0, none⟩) n n) (w.alloc (.cells MC 56))) ∧ kVl.R 56 (W.alloc (.cells MC 56)) W.heap.size (fun k => W.heap.size ≤ k) (.slice (some ⟨W.heap.size, 0, none⟩) n n) (List.replicate n (0, 0, 0, 0)) := by
  obtain ⟨i0, hi, hzz⟩ := Option.map_eq_some_iff.1 infoVl
  simp only [Prod.mk.injEq] at hzz
  obtain ⟨hz0, hz1, hz2⟩ := hzz
  refine ⟨madeCells (Value.agg #[.int .u8 0, .int .u64 0, .int .i64 0, .int .i64 0]).cells (n * 4), fun w => ?_, ?_⟩
  · have hr := run_make (P := Tryd.prog) w 111 56 i0 _ Tryd.underlying111 hi hz0 .i64 .i64 (n : Int) (n : Int) (by omega) (by omega) (by rw [hz2]; omega) (by omega)
    rw [Int.toNat_natCast, hz1] at hr
    exact hr
  · refine ⟨fun k hk => (show W.heap.size = k by simpa [Value.ownBlock] using hk) ▸ Nat.le_refl _, (madeCells (Value.agg #[.int .u8 0, .int .u64 0, .int .i64 0, .int .i64 0]).cells (n * 4)).toList, ?_, ?_⟩
    · have h2 := World.ownsRow_lit (base := W.heap.size) (e := 56) (size := 4) W (madeCells (Value.agg #[.int .u8 0, .int .u64 0, .int .i64 0, .int .i64 0]).cells (n * 4)) n (Nat.le_refl _) (by simp [maxLen]; omega) (by simp [size_madeCells])
      rw [List.length_replicate]
      exact h2
    · exact Kd.reps_made (z := .agg #[.int .u8 0, .int .u64 0, .int .i64 0, .int .i64 0]) rfl (by decide) (vl_zero _ _ _) n
set_option maxRecDepth 100000 in
set_option maxHeartbeats 2000000 in
theorem mcall1_any (q : Option Addr) (ent : List (Int × (List Int × List Int))) (f : Int) (n : Nat) (l : List Af) (B bf qr : Nat) (v : Value) (W : World) (hl2 : l.length < 1048576) (hn : n ≤ 1048576) (ht : TblOr W (.pointer q) ent) (hw : ∀ e ∈ ent, Bm.Words e.2.1) (hs : tSize ent f = (n : Int)) (hB : bf < B) (hB2 : B ≤ qr) (hbf : W.heap[bf]? = some (.cells #[.int .i64 f] 3 (0, 0))) (hq : W.heap[qr]? = some (.cells #[.pointer q, v] 179 (0, 0))) (hR : kAf.R 113 W B (fun k => k < qr) v l) :
    Calls Tryd.prog 111 #[.pointer (some ⟨qr, 0, none⟩), .pointer (some ⟨bf, 0, none⟩)] W fun e W' => HowL (fun l' => l' = l ++ [(f, newsTo (tPtr ent f) n n)]) (fun _ => False) (.pointer q) B qr W e W' := by
  obtain ⟨A, c, rfl, _, _⟩ := Kd.R_reads hR
  obtain ⟨MC, hmk, hM⟩ := made_vls W n hn
  have HSZ := Lk.mk (fun W' (hb : Below W.heap.size W W') => hs ▸ size_any (.pointer q) ent f W' (ht.below hb))
  have HPT := Lk.mk (fun W' (i : Int) (hb : Below W.heap.size W W') (hi : i ≤ 9223372036854775807) => ptr_any (.pointer q) ent f i W' (ht.below hb) hw hi)
  have HD := Lk.mk (below_drew (Below.refl W.heap.size W))
  have HD2 := Lk.mk (below_drew HD.out)
  have HQ := Lk.mk hq
  have HF := Lk.mk hbf
  have hqd := blk_drew hq
  have hfd := blk_drew hbf
  obtain ⟨q0, q1⟩ := cells2v hqd
  have f0 := blk_cell hfd 0
  obtain ⟨r0, r1⟩ := cells2v (blk_drew hqd)
  have s0 := blk_cell (blk_drew hfd) 0
  have hqa := blk_drew (blk_drew (blk_alloc hq (.cells MC 56)))
  have hfa := blk_drew (blk_drew (blk_alloc hbf (.cells MC 56)))
  obtain ⟨t0, t1⟩ := cells2v hqa
  have u0 := blk_cell hfa 0
  simp only [List.getElem?_toArray, List.getElem?_cons_zero] at f0 s0 u0
  have HBa := Lk.mk (below_drew (below_drew (below_alloc (Below.refl W.heap.size W) (.cells MC 56))))
  have HM0 := Lk.mk (show kVl.R 56 (W.alloc (.cells MC 56)).drew.drew W.heap.size (fun k => W.heap.size ≤ k) (.slice (some ⟨W.heap.size, 0, none⟩) n n) (newsTo (tPtr ent f) n 0) by rw [newsTo_zero]; exact Kd.R_drew (Kd.R_drew hM))
  have HR := Lk.mk hR
  have HLW := Lk.mk (blk_lt hq)
  have HOWN := Lk.mk (show ∀ k, (Value.slice A l.length c).ownBlock = some k → k < qr from fun k hk => hR.1 k hk)
  have HL2 := Lk.mk hl2
  have HBQ := Lk.mk hB2
  have HNN := Lk.mk hn
  have hnz : ¬ (n : Int) < 0 := by omega
  have hnm : n ≤ 9223372036854775807 := by omega
  clear hR ht hw hs hbf hq hqd hfd hl2 hB hB2 hqa hfa hM hn
  go_enter Tryd.func111, Tryd.ntmps111
  go_wp2
  go_region_held3 (fun W' => W'.cell? ⟨qr, 0, none⟩ = some (.pointer q) ∧ W'.cell? ⟨bf, 0, none⟩ = some (.int .i64 f)) (first | exact ⟨q0, f0⟩) (first
    | (go_at_call 63; (with_reducible refine (HSZ.out _ HD.out).mono ?_); rintro e w' ⟨rfl, hw⟩; obtain rfl := hw.symm; clear hw)
    | (go_at_call 112; (with_reducible refine (mmust_ok _ _).mono ?_); rintro e w' ⟨rfl, hw⟩; obtain rfl := hw.symm; clear hw))
  go_wp2
  go_region_held3 (fun W' => W'.cell? ⟨qr, 0, none⟩ = some (.pointer q) ∧ W'.cell? ⟨bf, 0, none⟩ = some (.int .i64 f)) (first | exact ⟨r0, s0⟩ | exact ⟨t0, u0⟩) (first
    | (go_at_call 63; (with_reducible refine (HSZ.out _ HD2.out).mono ?_); rintro e w' ⟨rfl, hw⟩; obtain rfl := hw.symm; clear hw))
  go_wp2
  go_loopg [22] n (fun gg v22 W3 => ∃ i : Nat, i ≤ n ∧ n - i ≤ gg ∧ v22 = .int .i64 i ∧ Lk (kVl.R 56 W3 W.heap.size (fun k => W.heap.size ≤ k) (.slice (some ⟨W.heap.size, 0, none⟩) n n) (newsTo (tPtr ent f) n i)) ∧ Lk (Below W.heap.size W W3))
  case atStart => exact ⟨0, by omega, by omega, rfl, HM0, HBa⟩
  case round =>
    obtain ⟨i, hi, hg, rfl, HM, HB⟩ := hrel
    obtain ⟨w3, rfl⟩ : ∃ w3 : World, w3 = wr := ⟨_, rfl⟩
    clear q0 q1 f0 r0 r1 s0 t0 t1 u0
    have HB3 := Lk.mk (below_drew HB.out)
    have HQ3 := Lk.mk (blk_below HQ.out HB3.out)
    have HF3 := Lk.mk (blk_below HF.out HB3.out)
    obtain ⟨q0, q1⟩ := cells2v HQ3.out
    have f0 := blk_cell HF3.out 0
    simp only [List.getElem?_toArray, List.getElem?_cons_zero] at f0
    by_cases hil : i < n
    · have hiz : (i : Int) < (n : Int) := by omega
      have HIL := Lk.mk hil
      have HC := Lk.mk (HPT.out w3.drew (i : Int) HB3.out (by have := HNN.out; omega))
      have HMd := Lk.mk (Kd.R_drew HM.out)
      cases hp : tPtr ent f (i : Int) with
      | true =>
        rw [hp] at HC
        have HN := Lk.mk (newsTo_ptr (n := n) hp)
        clear hp
        go_wp2
        go_region_held3 (fun W' => W'.cell? ⟨qr, 0, none⟩ = some (.pointer q) ∧ W'.cell? ⟨bf, 0, none⟩ = some (.int .i64 f)) (first | exact ⟨q0, f0⟩ | exact ⟨pw_cell_below HB4.out q0, pw_cell_below HB4.out f0⟩) (first
          | (go_at_call 47; (with_reducible refine (HC.out).mono ?_); rintro e w4 ⟨rfl, hb4⟩; have HB4 := Lk.mk hb4; clear hb4))
        go_wp2
        go_roundg (n - (i + 1))
        case measure => omega
        case rel => exact ⟨i + 1, by have := HIL.out; omega, by have := HIL.out; omega, (by have := HIL.out; have := HNN.out; go_num), ⟨by rw [HN.out]; exact Kd.R_below HMd.out HB4.out⟩, ⟨below_then HB3.out HB3.out.size HB4.out⟩⟩
      | false =>
        rw [hp] at HC
        have HN := Lk.mk (newsTo_set (n := n) hp)
        have HG := Lk.mk (newsTo_get (ptr := tPtr ent f) (i := i) hil)
        clear hp
        go_wp2
        go_region_held3 (fun W' => W'.cell? ⟨qr, 0, none⟩ = some (.pointer q) ∧ W'.cell? ⟨bf, 0, none⟩ = some (.int .i64 f)) (first | exact ⟨q0, f0⟩ | exact ⟨pw_cell_below HB4.out q0, pw_cell_below HB4.out f0⟩) (first
          | (go_at_call 47; (with_reducible refine (HC.out).mono ?_); rintro e w4 ⟨rfl, hb4⟩; have HB4 := Lk.mk hb4; clear hb4))
        have HM4 := Lk.mk (Kd.R_below HMd.out HB4.out)
        obtain ⟨cs, hcl, hcM, hcc, hcz⟩ := Kd.R_elem HM4.out Sl.dVl (i : Int) (by omega) (by have := HIL.out; omega)
        rw [Int.toNat_natCast, HG.out] at hcM
        rw [Int.toNat_natCast] at hcc hcz
        obtain ⟨y0, y', rfl, rfl, y1, y2, rfl, rfl, y3, y4, rfl, rfl, rfl⟩ := hcM
        have k0 := hcc 0 _ rfl
        have kz := hcz 0
        rw [Nat.add_zero, show kVl.sz = 4 from rfl] at k0 kz
        have HSG := Lk.mk (Kd.R_seg (c := [.int .u8 0, .int .u64 0, .int .i64 0, .int .i64 0]) (seg := [.int .u8 1]) (j := 0) (okp := fun _ => False) (x' := ((1, 0, 0, 0) : Sl.Vl)) HM4.out (i : Int) (by omega) (by have := HIL.out; omega) rfl (by rw [Int.toNat_natCast]; exact hcc) (by decide) ⟨[_], [_, _, _], rfl, rfl, ⟨[_], [_, _], rfl, rfl, ⟨[_], [_], rfl, rfl, rfl⟩⟩⟩ (fun _ h => h.elim))
        rw [Int.toNat_natCast, show kVl.sz = 4 from rfl, ← HN.out, show w4.setCells W.heap.size (i * 4 + 0) [.int .u8 1] = w4.setCell ⟨W.heap.size, i * 4, none⟩ (.int .u8 1) from rfl] at HSG
        have HBn := Lk.mk ((below_then HB3.out HB3.out.size HB4.out).setCell (p := ⟨W.heap.size, i * 4, none⟩) (Nat.le_refl _) (.int .u8 1))
        clear hcc hcz
        go_wp2
        go_roundg (n - (i + 1))
        case measure => omega
        case rel => exact ⟨i + 1, by have := HIL.out; omega, by have := HIL.out; omega, (by have := HIL.out; have := HNN.out; go_num), ⟨HSG.out.1⟩, HBn⟩
    · have hiz : ¬ (i : Int) < (n : Int) := by omega
      obtain rfl : i = n := by omega
      have HMd := Lk.mk (Kd.R_drew HM.out)
      have hsz : W.heap.size ≤ w3.heap.size := HB.out.size
      have hsd : w3.drew.heap.size = w3.heap.size := rfl
      have HSZ3 := Lk.mk hsz
      have HB0 := Lk.mk (show Below B W w3.drew from ⟨HB3.out.os, HB3.out.tape, HB3.out.output, by have := HLW.out; have := HBQ.out; omega, fun k hk => HB3.out.block k (by have := HLW.out; have := HBQ.out; omega)⟩)
      have HP := Lk.mk (af_M (b := B) (m := W.heap.size) (s := f) HMd.out (by have := HLW.out; have := HBQ.out; omega) (Nat.le_refl _))
      have HBS := Lk.mk (show B ≤ w3.drew.heap.size by have := HLW.out; have := HBQ.out; omega)
      have HOK := Lk.mk (show ∀ k, W.heap.size ≤ k → k ≠ qr ∧ some k ≠ (Value.slice A l.length c).ownBlock from fun k hk => ⟨by have := HLW.out; omega, fun e => by have := HOWN.out k e.symm; have := HLW.out; omega⟩)
      have HFR := Lk.mk (show ∀ k, w3.drew.heap.size ≤ k → k ≠ qr from fun k hk => by have := HLW.out; omega)
      have HRm := Lk.mk (Kd.R_mono (Kd.R_below HR.out HB3.out) (fun k hk => (Nat.ne_of_lt hk : k ≠ qr)))
      have HLN := Lk.mk (show (l.length + 1) * 32 ≤ 140737488355328 by have := HL2.out; omega)
      have HLQ := Lk.mk (show qr < w3.drew.heap.size by have := HLW.out; omega)
      have HNE := Lk.mk (show some qr ≠ (Value.slice A l.length c).ownBlock from fun e => by have := HOWN.out qr e.symm; omega)
      have hq3 := blk_below HQ.out HB.out
      have hf3 := blk_below HF.out HB.out
      obtain ⟨z0, z1⟩ := cells2v (blk_alloc hq3 (.cells #[.int .i64 f, .slice (some ⟨W.heap.size, 0, none⟩) i i] 113))
      have zf := blk_cell (blk_alloc hf3 (.cells #[.int .i64 f, .slice (some ⟨W.heap.size, 0, none⟩) i i] 113)) 0
      simp only [List.getElem?_toArray, List.getElem?_cons_zero] at zf
      clear hq3 hf3 hsz hsd hil
      go_wp2
      go_region_law (refine Kd.R_append_step (w0 := W) kAf B (by rfl) _ _ 42 113 _ 32 (by rfl) Tryd.underlying42 infoAf rfl (by decide) (by decide) (.slice A l.length c) l (f, newsTo (tPtr ent f) i i) _ (fun k => k ≠ qr) (fun k => W.heap.size ≤ k) (by rfl) (by rfl) HP.out HOK.out HFR.out HRm.out HB0.out HBS.out HLN.out ?_
                     intro v4 w4 hE4 hb4 hg4 hat4
                     obtain ⟨A4, c4, e4, hc4, hC4⟩ := Kd.R_reads hE4
                     rw [List.length_append, show [((f, newsTo (tPtr ent f) i i) : Af)].length = 1 from rfl] at e4
                     subst e4
                     have HG4 := Lk.mk ((hg4.block qr HLQ.out HNE.out).trans HQ3.out)
                     have hf4 := blk_cell HG4.out 1
                     simp only [List.getElem?_toArray, List.getElem?_cons_zero, List.getElem?_cons_succ] at hf4
                     have hz4 := blk_frozen HG4.out 1)
      all_goals
        have HE4 := Lk.mk hE4
        have HB4 := Lk.mk hb4
        clear hE4 hb4 hg4 hat4 hC4 hc4
        go_wp2
        simp [bodyPost, results, Tryd.results111]
        exact ⟨HB4.out.setCell (p := ⟨qr, 1, none⟩) HBQ.out _, .inl ⟨rfl, _, _, rfl, blk_put HG4.out 1 _ rfl, Kd.R_far HE4.out (fun k hk => hk) _⟩⟩
end Go.Proofs.YtcepafllgjnngaaDoor

/-
  The walk of the model's Call at any function; conditions: the row and the table read as told, the row is right.
-/
namespace Go.Proofs.YtcepafllgjnngaaDoor
open Go.RowKit Go.Proofs.YtcepafllgjnngaaDoorW.PrintWords

set_option maxRecDepth 100000 in
set_option maxHeartbeats 2000000 in
theorem mcall1_neg (q : Option Addr) (ent : List (Int × (List Int × List Int))) (f : Int) (res : List Af → Prop) (B bf qr : Nat) (v : Value) (W : World) (ht : TblOr W (.pointer q) ent) (hs : tSize ent f < 0) (hB2 : B ≤ W.heap.size) (hbf : W.heap[bf]? = some (.cells #[.int .i64 f] 3 (0, 0))) (hq : W.heap[qr]? = some (.cells #[.pointer q, v] 179 (0, 0))) :
    Calls Tryd.prog 111 #[.pointer (some ⟨qr, 0, none⟩), .pointer (some ⟨bf, 0, none⟩)] W fun e W' => HowL res (fun n => n = 1) (.pointer q) B qr W e W' := by
  have HSZ := Lk.mk (fun W' (hb : Below W.heap.size W W') => size_any (.pointer q) ent f W' (ht.below hb))
  have HD := Lk.mk (below_drew (Below.refl W.heap.size W))
  have HDB := Lk.mk (below_drew (Below.refl B W))
  have hqd := blk_drew hq
  have hfd := blk_drew hbf
  obtain ⟨q0, q1⟩ := cells2v hqd
  have f0 := blk_cell hfd 0
  simp only [List.getElem?_toArray, List.getElem?_cons_zero] at f0
  generalize tSize ent f = z at *
  have HZN := Lk.mk (show decide (0 ≤ z) = false from decide_eq_false (by omega))
  clear ht hbf hq hqd hfd hs
  go_enter Tryd.func111, Tryd.ntmps111
  go_wp2
  go_region_with (first
    | (go_at_call 63; (with_reducible refine (HSZ.out _ HD.out).mono ?_); rintro e w' ⟨rfl, hw⟩; obtain rfl := hw.symm; clear hw)
    | (go_at_call 112; rw [HZN.out]; (with_reducible refine (mmust_no _ _).mono ?_); rintro e w' ⟨rfl, hw⟩; obtain rfl := hw.symm; clear hw; refine as_panic (K := ‹Act → World → Prop›) ⟨rfl, HDB.out, .inr ⟨1, by decide, rfl, rfl⟩⟩ ?_; intro hF))
  all_goals exact hF.elim
/-- what a called frame's slots are -/
def newsL (ent : List (Int × (List Int × List Int))) (f : Int) : List Sl.Vl := newsTo (tPtr ent f) (tSize ent f).toNat (tSize ent f).toNat
set_option maxRecDepth 100000 in
set_option maxHeartbeats 2000000 in
theorem mcall_any (q : Option Addr) (ent : List (Int × (List Int × List Int))) (f : Int) (A : Option Addr) (c : Nat) (l : List Af) (w : World) (ht : TblOr w (.pointer q) ent) (hw : ∀ e ∈ ent, Bm.Words e.2.1) (hr : kAf.C w A l.length l) (hl : AfLen l) (hl2 : l.length < 1048576) (hv : AfIn l) (hR : RightP (tSize ent) (tPtr ent) l) (hn : tSize ent f ≤ 1048576) :
    Calls Tryd.prog 68 #[.pointer q, .slice A l.length c, .int .i64 f] w fun e w' => Below w.heap.size w w' ∧ ∃ v, kAf.R 113 w' w.heap.size (fun _ => True) v (if 0 ≤ tSize ent f then l ++ [(f, newsL ent f)] else l) ∧ e = .returned (.tuple #[v, .int .i64 (if 0 ≤ tSize ent f then 0 else 1)]) := by
  have H0 := Lk.mk (below_alloc (Below.refl w.heap.size w) (.cells #[.int .i64 f] 3))
  have hx := blk_new w (.cells #[.int .i64 f] 3)
  have hsz : (w.alloc (.cells #[.int .i64 f] 3)).heap.size = w.heap.size + 1 := by simp
  have eg := enters_of Tryd.func111 (by kernel_rfl) rfl
  by_cases h : 0 ≤ tSize ent f
  · obtain ⟨n, hnn⟩ := Int.eq_ofNat_of_zero_le h
    have HC := Lk.mk (mchange_any q ent 111 #[.pointer (some ⟨w.heap.size, 0, none⟩)] A c l (fun l' => l' = l ++ [(f, newsTo (tPtr ent f) n n)]) (fun _ => False) (w.alloc (.cells #[.int .i64 f] 3)) eg (ht.below H0.out) hw (Kd.C_below hr H0.out) hl hv hR
      (fun W qr v hb hqr hq hRR => mcall1_any q ent f n l _ w.heap.size qr v W hl2 (by omega) (ht.below (below_then H0.out H0.out.size hb)) hw hnn (by omega) (by omega) (blk_below hx hb) hq hRR))
    have HE := Lk.mk (show newsL ent f = newsTo (tPtr ent f) n n by unfold newsL; rw [hnn, Int.toNat_natCast])
    rw [if_pos h, if_pos h, HE.out]
    clear ht hw hr hl hl2 hv hR hx hsz h hnn hn
    go_enter Tryd.func68, Tryd.ntmps68
    go_wp2_with (go_at_call 110; (with_reducible refine (HC.out).mono ?_); rintro e w1 ⟨hb, v, l', n9, rfl, hR1, hor⟩; obtain ⟨rfl, hl9⟩ : n9 = 0 ∧ l' = l ++ [(f, newsTo (tPtr ent f) n n)] := (by rcases hor with ⟨h1, h2⟩ | ⟨_, h, _⟩; exact ⟨h1, h2⟩; exact h.elim); have HB := Lk.mk (below_then H0.out H0.out.size hb); have HRx := Lk.mk (hl9 ▸ hR1); clear hb hR1 hor hl9)
    go_ret2
    exact ⟨HB.out, _, Kd.R_lower HRx.out H0.out.size, rfl⟩
  · have HC := Lk.mk (mchange_any q ent 111 #[.pointer (some ⟨w.heap.size, 0, none⟩)] A c l (fun _ => False) (fun n => n = 1) (w.alloc (.cells #[.int .i64 f] 3)) eg (ht.below H0.out) hw (Kd.C_below hr H0.out) hl hv hR
      (fun W qr v hb hqr hq hRR => mcall1_neg q ent f _ _ w.heap.size qr v W (ht.below (below_then H0.out H0.out.size hb)) (by omega) (by have := blk_lt hq; omega) (blk_below hx hb) hq))
    rw [if_neg h, if_neg h]
    clear ht hw hr hl hl2 hv hR hx hsz h hn
    go_enter Tryd.func68, Tryd.ntmps68
    go_wp2_with (go_at_call 110; (with_reducible refine (HC.out).mono ?_); rintro e w1 ⟨hb, v, l', n9, rfl, hR1, hor⟩; obtain ⟨rfl, hl9⟩ : n9 = 1 ∧ l' = l := (by rcases hor with ⟨_, h⟩ | ⟨_, h, h2⟩; exact h.elim; exact ⟨h, h2⟩); have HB := Lk.mk (below_then H0.out H0.out.size hb); have HRx := Lk.mk (hl9 ▸ hR1); clear hb hR1 hor hl9)
    go_ret2
    exact ⟨HB.out, _, Kd.R_lower HRx.out H0.out.size, rfl⟩
end Go.Proofs.YtcepafllgjnngaaDoor

/-
  Rows whose elements' own block is told by a number (a tag): a store into one element's row leaves the others; conditions: the tags differ.
-/
namespace Go.Proofs.YtcepafllgjnngaaDoor
open Go.RowKit Go.Proofs.YtcepafllgjnngaaDoorW.PrintWords

/-- an element and the one block that it owns -/
def tagK {α : Type} (d : Kd α) : Kd (α × Nat) where
  sz := d.sz
  E := d.E
  K := fun w x cs => d.K w x.1 cs
  M := fun w base ok x cs => d.M w base (fun k => ok k ∧ k = x.2) x.1 cs
  K_len := fun h => d.K_len h
  K_one := fun h => d.K_one h
  K_below := fun hb h => d.K_below hb h
  K_of_M := fun h => d.K_of_M h
  M_mono := fun hok h => d.M_mono (fun k hk => ⟨hok k hk.1, hk.2⟩) h
  M_bound := fun h => d.M_mono (fun k hk => ⟨⟨hk.1.1, hk.2⟩, hk.1.2⟩) (d.M_bound h)
  M_move := fun hm h => d.M_move (fun k hk => hm k hk.1) h
  M_lower := fun hb h => d.M_lower hb h
theorem vls_M_any {w : World} {b b' : Nat} {ok ok' : Nat → Prop} {x : Sl.Vl} {cs : List Value} (h : kVl.M w b ok x cs) : kVl.M w b' ok' x cs := h
theorem vls_tag {w : World} {b : Nat} {ok : Nat → Prop} {v : Value} {xs : List Sl.Vl} (h : kVl.R 56 w b ok v xs) (t : Nat) (ht : ∀ k, v.ownBlock = some k → k = t) : kVl.R 56 w b (fun k => k = t) v xs := by
  obtain ⟨_, inner, ho, hr⟩ := h
  exact ⟨ht, inner, ho, hr.imp_ (fun _ _ hp => vls_M_any hp)⟩
theorem af_tag {w3 : World} {b B m : Nat} {s : Int} {xs : List Sl.Vl} {v3 : Value} (h3 : kVl.R 56 w3 B (fun k => B ≤ k) v3 xs) (hB : b ≤ B) (t : Nat) (hm : m ≤ t) (ht : ∀ k, v3.ownBlock = some k → k = t) : (tagK kAf).M w3 b (fun k => m ≤ k) ((s, xs), t) [.int .i64 s, v3] :=
  ⟨[_], [_], rfl, rfl, ⟨v3, rfl, Kd.R_lower (Kd.R_mono (vls_tag h3 t ht) (fun k hk => ⟨by have h9 : k = t := hk; rw [h9]; exact hm, hk⟩)) hB⟩⟩
theorem tag_C {α : Type} {d : Kd α} {w : World} {A : Option Addr} {n : Nat} {xs : List (α × Nat)} (h : (tagK d).C w A n xs) : d.C w A n (xs.map (·.1)) := by
  refine ⟨by rw [List.length_map]; exact h.1, h.2.1, fun hp => ?_⟩
  obtain ⟨ad, e, hc⟩ := h.2.2 hp
  refine ⟨ad, e, fun j p hj => ?_⟩
  rw [List.getElem?_map] at hj
  obtain ⟨y, hy, rfl⟩ := Option.map_eq_some_iff.1 hj
  exact hc j y hy
theorem tag_of {w3 : World} {B0 : Nat} {v3 : Value} {xs : List Sl.Vl} (h3 : kVl.R 56 w3 (B0 + 1) (fun k => B0 + 1 ≤ k) v3 xs) (hlt : B0 < w3.heap.size) : ∃ tg : Nat, B0 ≤ tg ∧ (∀ k, v3.ownBlock = some k → k = tg) ∧ tg < w3.heap.size := by
  cases h : v3.ownBlock with
  | none => exact ⟨B0, Nat.le_refl _, (fun k hk => by cases hk), hlt⟩
  | some b => exact ⟨b, Nat.le_of_succ_le (h3.1 b h), (fun k hk => by cases hk; rfl), ((Kd.R_bound h3).1 b h).2.2.1⟩
theorem tags_next {ts : List Nat} {a b n tg : Nat} (h : ts.Nodup ∧ ∀ t ∈ ts, n ≤ t ∧ t < a) (h1 : a ≤ tg) (h2 : tg < b) (h3 : n ≤ a) (h4 : a ≤ b) : (ts ++ [tg]).Nodup ∧ ∀ t ∈ ts ++ [tg], n ≤ t ∧ t < b := by
  refine ⟨?_, fun t ht => ?_⟩
  · rw [List.nodup_append]
    refine ⟨h.1, by simp, fun x hx y hy => ?_⟩
    obtain rfl : y = tg := by simpa using hy
    have := (h.2 x hx).2
    omega
  · rcases List.mem_append.1 ht with ht | ht
    · have := h.2 t ht; omega
    · obtain rfl : t = tg := by simpa using ht
      omega
set_option maxRecDepth 100000 in
set_option maxHeartbeats 2000000 in
theorem mclone_tag (A : Option Addr) (c : Nat) (l : List Af) (w : World) (hr : kAf.C w A l.length l) (hl : AfLen l) :
    Calls Tryd.prog 151 #[.slice A l.length c] w fun e w' => ∃ v, e = .returned v ∧ ∃ ts : List Nat, ts.length = l.length ∧ ts.Nodup ∧ (∀ t ∈ ts, w.heap.size ≤ t) ∧ (tagK kAf).R 113 w' w.heap.size (fun _ => True) v (l.zip ts) ∧ Below w.heap.size w w' := by
  have hm := hr.2.1
  have hl0 := hl.1
  obtain ⟨i0, hi, hzz⟩ := Option.map_eq_some_iff.1 infoAf
  simp only [Prod.mk.injEq] at hzz
  obtain ⟨hz0, hz1, hz2⟩ := hzz
  obtain ⟨wm, hmk, hown, hgr⟩ := run_make_own (P := Tryd.prog) w w.heap.size 42 113 i0 _ 2 Tryd.underlying42 hi hz0 hz1 .i64 .i64 l.length (by rw [hz2]; omega) (by simp only [maxLen]; omega) (Nat.le_refl _)
  have HB0 := Lk.mk (show Below w.heap.size w wm from ⟨hgr.os, hgr.tape, hgr.output, hgr.size, fun k hk => hgr.block k hk (by simp)⟩)
  have HR0 := Lk.mk (show (tagK kAf).R 113 wm w.heap.size (fun _ => True) (.slice (some ⟨w.heap.size, 0, none⟩) 0 l.length) [] from ⟨fun _ _ => trivial, [], hown, Reps.none _ _⟩)
  have HRC := Lk.mk hr
  have HL := Lk.mk hl
  clear hr hl hown hgr hz0 hz1 hz2 hi
  go_enter Tryd.func151, Tryd.ntmps151
  go_wp2
  go_loopg [3, 11] l.length (fun gg v3 v11 wr => ∃ k : Nat, k ≤ l.length ∧ l.length - k ≤ gg ∧ v11 = .int .i64 k ∧ ∃ ts : List Nat, Lk ((tagK kAf).R 113 wr w.heap.size (fun _ => True) v3 ((l.take k).zip ts)) ∧ Lk (ts.length = k ∧ ts.Nodup ∧ ∀ t ∈ ts, w.heap.size ≤ t ∧ t < wr.heap.size) ∧ Lk (Below w.heap.size w wr))
  case atStart => exact ⟨0, by omega, by omega, rfl, [], HR0, ⟨rfl, List.nodup_nil, fun t ht => by cases ht⟩, HB0⟩
  case round =>
    obtain ⟨k, hk, hg, rfl, ts, HE, HTS, HB⟩ := hrel
    clear hmk HR0 HB0
    by_cases hlt : k < l.length
    · have hltz : (k : Int) < (l.length : Int) := by omega
      obtain ⟨ad, A1, c1, rfl, b0, b1, hc1, hC1⟩ := kAf_at (Kd.C_below HRC.out HB.out) k hlt
      have HX := Lk.mk (af_take hlt)
      have HLK := Lk.mk (HL.out.2 (l.getD k dAf) (getD_mem _ hlt))
      have HLT := Lk.mk (show (((l.take k).zip ts).length + 1) * 32 ≤ 140737488355328 by have := HL.out.1; rw [List.length_zip, List.length_take]; omega)
      generalize l.getD k dAf = f at *
      obtain ⟨f0, f1⟩ := f
      dsimp only at *
      have HBa := Lk.mk (below_drew (below_alloc (Below.refl wr.heap.size wr) (.cells #[.int .i64 f0, .slice A1 f1.length c1] 113)))
      have HFa := Lk.mk (blk_drew (blk_new wr (.cells #[.int .i64 f0, .slice A1 f1.length c1] 113)))
      have HCl := Lk.mk (cloneV A1 c1 f1 _ (Kd.C_below hC1 HBa.out) HLK.out)
      have HV := Lk.mk (Kd.R_bound HE.out).1
      have HOK := Lk.mk (show ∀ k, wr.heap.size ≤ k → True ∧ some k ≠ u3.ownBlock from fun k hk => ⟨trivial, fun e => by have := (HV.out k e.symm).2.2.1; omega⟩)
      have hsz : (wr.alloc (.cells #[.int .i64 f0, .slice A1 f1.length c1] 113)).drew.heap.size = wr.heap.size + 1 := by show (wr.alloc _).heap.size = _; simp
      have HSZ := Lk.mk hsz
      have HS := HB.out.size
      obtain ⟨q0, q1⟩ := cells2v HFa.out
      clear hC1 hc1 hsz
      go_wp2
      go_region_held3 (fun W => W.cell? ⟨wr.heap.size, 0, none⟩ = some (.int .i64 f0) ∧ W.cell? ⟨wr.heap.size, 1, none⟩ = some (.slice A1 f1.length c1)) (first | exact ⟨q0, q1⟩ | exact ⟨pw_cell_below hb3 q0, pw_cell_below hb3 q1⟩ | exact ⟨pw_cell_below (below_alloc hb3 _) q0, pw_cell_below (below_alloc hb3 _) q1⟩ | exact K4.out) (first
        | (go_at_call 170; (with_reducible refine (HCl.out).mono ?_); rintro e w3 ⟨v3, rfl, ho3, hb3⟩; rw [HSZ.out] at ho3; obtain ⟨A3, c3, rfl, _, _⟩ := Kd.R_reads ho3; have HBx := Lk.mk (below_then HB.out HB.out.size (below_then HBa.out HBa.out.size hb3)))
        | (have HTG := Lk.mk (tag_of ho3 (by have := hb3.size; rw [HSZ.out] at this; omega))
           obtain ⟨tg, htg0, htg1, htg2⟩ := HTG.out
           have HP := Lk.mk (af_tag (b := w.heap.size) (m := wr.heap.size) (s := f0) ho3 (by omega) tg htg0 htg1)
           have HTG2 := Lk.mk htg0
           have HTG3 := Lk.mk htg2
           have HS3 := Lk.mk (show wr.heap.size ≤ w3.heap.size by have := hb3.size; rw [HSZ.out] at this; omega)
           have HR4 := Lk.mk (Kd.R_below (Kd.R_below HE.out HBa.out) hb3)
           refine Kd.R_append_step (w0 := w) (tagK kAf) w.heap.size (by rfl) _ _ 42 113 _ 32 (by rfl) Tryd.underlying42 infoAf rfl (by decide) (by decide) u3 _ ((f0, f1), tg) _ (fun _ => True) (fun k => wr.heap.size ≤ k) (by rfl) (by rfl) HP.out HOK.out (fun _ _ => trivial) HR4.out HBx.out HBx.out.size HLT.out ?_
           intro v4 w4 hE4 hb4 hg4 hat4
           have HS4 := Lk.mk hg4.size
           have K4 := Lk.mk (show w4.cell? ⟨wr.heap.size, 0, none⟩ = some (.int .i64 f0) ∧ w4.cell? ⟨wr.heap.size, 1, none⟩ = some (.slice A1 f1.length c1) from by
             have hne : some wr.heap.size ≠ u3.ownBlock := fun e => by have := (HV.out _ e.symm).2.2.1; omega
             have h5 := (hg4.block _ (blk_lt (blk_below HFa.out hb3)) hne).trans (blk_below HFa.out hb3)
             exact cells2v h5)))
      go_wp2
      have HE4 := Lk.mk hE4
      have HB4 := Lk.mk hb4
      clear hE4 hb4 hg4 hat4
      go_roundg (l.length - (k + 1))
      case measure => omega
      case rel =>
        refine ⟨k + 1, by omega, by omega, by go_num, ts ++ [tg], ⟨by rw [HX.out, List.zip_append (by rw [List.length_take]; have := HTS.out.1; omega)]; exact HE4.out⟩, ⟨by rw [List.length_append, HTS.out.1]; rfl, tags_next HTS.out.2 HTG2.out (Nat.lt_of_lt_of_le HTG3.out HS4.out) HB.out.size (Nat.le_trans HS3.out HS4.out)⟩, HB4⟩
    · have hltz : ¬ (k : Int) < (l.length : Int) := by omega
      obtain rfl : k = l.length := by omega
      rw [List.take_length] at HE
      go_wp2
      go_ret
      exact ⟨_, rfl, ts, HTS.out.1, HTS.out.2.1, (fun t ht => (HTS.out.2.2 t ht).1), HE.out, HB.out⟩
end Go.Proofs.YtcepafllgjnngaaDoor

/-
  A store into one element's row of a row whose tags differ; conditions: none.
-/
namespace Go.Proofs.YtcepafllgjnngaaDoor
open Go.RowKit Go.Proofs.YtcepafllgjnngaaDoorW.PrintWords

def vSeg (v : Sl.Vl) : List Value := [.int .u8 v.1, .int .u64 v.2.1, .int .i64 v.2.2.1, .int .i64 v.2.2.2]
theorem vSeg_M (w : World) (b : Nat) (ok : Nat → Prop) (v : Sl.Vl) : kVl.M w b ok v (vSeg v) := ⟨[_], [_, _, _], rfl, rfl, ⟨[_], [_, _], rfl, rfl, ⟨[_], [_], rfl, rfl, rfl⟩⟩⟩
/-- element d's row of slots -/
theorem tag_at {w : World} {e b g n cap : Nat} {ok : Nat → Prop} {xs : List (Af × Nat)} (h : (tagK kAf).R e w b ok (.slice (some ⟨g, 0, none⟩) n cap) xs) {d : Nat} {f : Int} {sl : List Sl.Vl} {t : Nat} (hd : xs[d]? = some ((f, sl), t)) (hp : 0 < sl.length) :
    ∃ c, w.cell? ⟨g, d * 2 + 1, none⟩ = some (.slice (some ⟨t, 0, none⟩) sl.length c) ∧ t ≠ g ∧ ok t ∧ kVl.R 56 w b (fun k => (ok k ∧ k ≠ g) ∧ k = t) (.slice (some ⟨t, 0, none⟩) sl.length c) sl := by
  have hdl : d < xs.length := (List.getElem?_eq_some_iff.1 hd).1
  obtain ⟨hn, _, _⟩ := Kd.R_reads' h
  obtain ⟨cs, hcl, hM, hcc, hcz⟩ := Kd.R_elem h ((0, []), 0) (d : Int) (by omega) (by omega)
  rw [Int.toNat_natCast, List.getD_eq_getElem?_getD, hd] at hM
  rw [Int.toNat_natCast] at hcc
  obtain ⟨c0, c1, rfl, rfl, v3, rfl, h3⟩ := hM
  have h1 := hcc 1 v3 rfl
  obtain ⟨g3, cap3, rfl, _⟩ := Kd.R_form h3 hp
  have hg : (ok g3 ∧ g3 ≠ g) ∧ g3 = t := h3.1 g3 (by simp [Value.ownBlock])
  obtain ⟨⟨ho, hne⟩, rfl⟩ := hg
  exact ⟨cap3, h1, hne, ho, h3⟩
theorem tag_store {w : World} {e b g n cap : Nat} {ok : Nat → Prop} {xs : List (Af × Nat)} (h : (tagK kAf).R e w b ok (.slice (some ⟨g, 0, none⟩) n cap) xs) (hnd : (xs.map (·.2)).Nodup) {d : Nat} {f : Int} {sl : List Sl.Vl} {t : Nat} (hd : xs[d]? = some ((f, sl), t)) {s : Nat} (hs : s < sl.length) (v : Sl.Vl) :
    (tagK kAf).R e (w.setCells t (s * 4) (vSeg v)) b ok (.slice (some ⟨g, 0, none⟩) n cap) (xs.set d ((f, sl.set s v), t)) := by
  obtain ⟨c3, h1, hne, hok, h3⟩ := tag_at h hd (by omega)
  have hdl : d < xs.length := (List.getElem?_eq_some_iff.1 hd).1
  obtain ⟨cs, hcl, _, hcc, _⟩ := Kd.R_elem h3 Sl.dVl (s : Int) (by omega) (by omega)
  have hsg := Kd.R_seg (c := cs) (seg := vSeg v) (j := 0) (okp := fun _ => False) (x' := v) h3 (s : Int) (by omega) (by omega) hcl hcc (Nat.le_refl 4) (by
    have hl4 : cs.length = 4 := hcl
    rw [List.take_zero, List.nil_append, List.drop_eq_nil_of_le (by rw [hl4]; exact Nat.le_refl 4), List.append_nil]
    exact vSeg_M _ _ _ _) (fun _ h => h.elim)
  rw [Int.toNat_natCast, show kVl.sz = 4 from rfl, Nat.add_zero] at hsg
  obtain ⟨hR3, hgr⟩ := hsg
  obtain ⟨h0, inner, ho, hr⟩ := h
  have hfar : ∀ k, k ≠ t → (w.setCells t (s * 4) (vSeg v)).heap[k]? = w.heap[k]? := fun k hk => setCells_far _ _ k hk
  refine ⟨h0, inner, ?_, ?_⟩
  · rw [List.length_set]
    exact own_move ho (fun k hk => hfar k (by
      have : g = k := by simpa [Value.ownBlock] using hk
      omega))
  · refine ⟨by rw [List.length_set]; exact hr.1, fun j p hj => ?_⟩
    rw [List.getElem?_set] at hj
    by_cases hjd : d = j
    · subst hjd
      rw [if_pos rfl, if_pos hdl] at hj
      obtain rfl := (Option.some.inj hj).symm
      obtain ⟨c0, c1, hcs, rfl, v3, rfl, h4⟩ := hr.2 d _ hd
      have hv3 : v3 = .slice (some ⟨t, 0, none⟩) sl.length c3 := by
        have hx := ho.cells (g := g) (by simp [Value.ownBlock]) (d * 2 + 1) v3 (by
          have hy : ((inner.drop (d * 2)).take 2)[1]? = some v3 := by rw [show (tagK kAf).sz = 2 from rfl] at hcs; rw [hcs]; rfl
          rw [List.getElem?_take, if_pos (by decide), List.getElem?_drop] at hy
          exact hy)
        rw [add_plain] at hx
        rw [hx] at h1
        exact Option.some.inj h1
      subst hv3
      rw [hcs]
      refine ⟨_, _, rfl, rfl, _, rfl, ?_⟩
      have hl : (sl.set s v).length = sl.length := List.length_set
      exact Kd.R_mono hR3 (fun k hk => ⟨⟨hk.1.1, fun e => hk.1.2 (by simpa [Value.ownBlock] using e)⟩, hk.2⟩)
    · rw [if_neg hjd] at hj
      have hM := hr.2 j p hj
      have hjt : p.2 ≠ t := by
        intro e
        have hjl : j < xs.length := (List.getElem?_eq_some_iff.1 hj).1
        have h5 : (xs.map (·.2))[j]? = some t := by rw [List.getElem?_map, hj]; exact congrArg some e
        have h6 : (xs.map (·.2))[d]? = some t := by rw [List.getElem?_map, hd]; rfl
        first
          | exact hjd (List.getElem?_inj (by rw [List.length_map]; exact hdl) hnd (h6.trans h5.symm))
          | exact hjd ((List.getElem?_inj (by rw [List.length_map]; exact hdl) hnd).1 (h6.trans h5.symm))
      exact kAf.M_move (fun k hk => hfar k (by rw [hk.2]; exact hjt)) hM
end Go.Proofs.YtcepafllgjnngaaDoor

/-
  The walk of the model's change, with tags; conditions: the row and the table read as told, the row is right; how turns the row, or throws.
-/
namespace Go.Proofs.YtcepafllgjnngaaDoor
open Go.RowKit Go.Proofs.YtcepafllgjnngaaDoorW.PrintWords

theorem zip_len {α β : Type} {l : List α} {ts : List β} (h : ts.length = l.length) : (l.zip ts).length = l.length := by rw [List.length_zip]; omega
theorem tag_R {e : Nat} {w : World} {b : Nat} {ok : Nat → Prop} {v : Value} {xs : List (Af × Nat)} (h : (tagK kAf).R e w b ok v xs) : kAf.R e w b ok v (xs.map (·.1)) := by
  obtain ⟨h0, inner, ho, hr⟩ := h
  refine ⟨h0, inner, by rw [List.length_map]; exact ho, ⟨by rw [List.length_map]; exact hr.1, fun j p hj => ?_⟩⟩
  rw [List.getElem?_map] at hj
  obtain ⟨y, hy, rfl⟩ := Option.map_eq_some_iff.1 hj
  exact kAf.M_mono (fun k hk => hk.1) (hr.2 j y hy)
set_option maxRecDepth 100000 in
set_option maxHeartbeats 2000000 in
theorem mchange_tag (q : Option Addr) (ent : List (Int × (List Int × List Int))) (g : Nat) (lb : Array Value) (A : Option Addr) (c : Nat) (l : List Af) (res : List Af → Prop) (err : Int → Prop) (w : World) (eg : ∀ args w, (callFunc g args).run Tryd.prog w = .ok (.enter g args) w) (ht : TblOr w (.pointer q) ent) (hw : ∀ e ∈ ent, Bm.Words e.2.1) (hr : kAf.C w A l.length l) (hl : AfLen l) (hv : AfIn l) (hR : RightP (tSize ent) (tPtr ent) l)
    (hhow : ∀ W qr v (ts : List Nat), ts.length = l.length → ts.Nodup → Below w.heap.size w W → w.heap.size + 3 ≤ qr → W.heap[qr]? = some (.cells #[.pointer q, v] 179 (0, 0)) → (tagK kAf).R 113 W (w.heap.size + 3) (fun k => k < qr) v (l.zip ts) → Calls Tryd.prog g (#[.pointer (some ⟨qr, 0, none⟩)] ++ lb) W fun e W' => HowL res err (.pointer q) (w.heap.size + 3) qr W e W') :
    Calls Tryd.prog 110 #[.pointer q, .slice A l.length c, .func (.func g) #[] lb] w fun e w' => Below w.heap.size w w' ∧ ∃ v l' n, e = .returned (.tuple #[v, .int .i64 n]) ∧ kAf.R 113 w' w.heap.size (fun _ => True) v l' ∧ ((n = 0 ∧ res l') ∨ (¬ n = 0 ∧ err n ∧ l' = l)) := by
  have hs1 : (w.alloc (.cells #[.slice A l.length c] 42)).heap.size = w.heap.size + 1 := by simp
  have hs2 : ((w.alloc (.cells #[.slice A l.length c] 42)).alloc (.cells #[.slice none 0 0] 42)).heap.size = w.heap.size + 1 + 1 := by simp
  have hs3 : (((w.alloc (.cells #[.slice A l.length c] 42)).alloc (.cells #[.slice none 0 0] 42)).alloc (.cells #[.int .i64 0] 30)).heap.size = w.heap.size + 1 + 1 + 1 := by simp
  have H0 := Lk.mk (below_alloc (below_alloc (below_alloc (Below.refl w.heap.size w) (.cells #[.slice A l.length c] 42)) (.cells #[.slice none 0 0] 42)) (.cells #[.int .i64 0] 30))
  have HL0 := Lk.mk (blk_alloc (blk_alloc (blk_new w (.cells #[.slice A l.length c] 42)) (.cells #[.slice none 0 0] 42)) (.cells #[.int .i64 0] 30))
  have ho0 := blk_alloc (blk_new (w.alloc (.cells #[.slice A l.length c] 42)) (.cells #[.slice none 0 0] 42)) (.cells #[.int .i64 0] 30)
  rw [hs1] at ho0
  have HO0 := Lk.mk ho0
  have he0 := blk_new ((w.alloc (.cells #[.slice A l.length c] 42)).alloc (.cells #[.slice none 0 0] 42)) (.cells #[.int .i64 0] 30)
  rw [hs2] at he0
  have HE0 := Lk.mk he0
  have hcl := mclone_tag A c l _ (Kd.C_below hr H0.out) hl
  rw [hs3] at hcl
  have HCL := Lk.mk hcl
  have HRT := Lk.mk (fun W (hb : Below w.heap.size w W) => mRight_ok (.pointer q) ent A c l W (ht.below hb) hw (Kd.C_below hr hb) hv hR)
  have HHW := Lk.mk hhow
  have HRC := Lk.mk hr
  have HLN := Lk.mk hl
  have HS3 := Lk.mk hs3
  have hl0c := blk_cell HL0.out 0
  simp only [List.getElem?_toArray, List.getElem?_cons_zero] at hl0c
  clear ht hw hr hl hv hR hhow hcl ho0 he0 hs1 hs2 hs3
  go_enter_defers Tryd.func110, Tryd.ntmps110
  go_wp2_with (first
    | (go_at_call 151; (with_reducible refine (HCL.out).mono ?_); rintro e w1 ⟨v, rfl, ts, hts, hnd, _, hR, hb⟩; obtain ⟨A1, c1, e1, _, _⟩ := Kd.R_reads hR; rw [zip_len hts] at e1; subst e1; have HTS := Lk.mk hts; have HND := Lk.mk hnd; clear hts hnd; have HR1 := Lk.mk hR; have HB1 := Lk.mk (below_then H0.out H0.out.size (HS3.out ▸ hb)); have HL1 := Lk.mk (blk_below HL0.out (HS3.out ▸ hb)); have HO1 := Lk.mk (blk_below HO0.out (HS3.out ▸ hb)); have HE1 := Lk.mk (blk_below HE0.out (HS3.out ▸ hb)); have hsz1 : w.heap.size + 1 + 1 + 1 ≤ w1.heap.size := HS3.out ▸ hb.size; have hl1c := blk_cell (blk_alloc HL1.out (.cells #[.pointer q, .slice A1 l.length c1] 179)) 0; simp only [List.getElem?_toArray, List.getElem?_cons_zero] at hl1c; have HBa := Lk.mk (below_alloc HB1.out (.cells #[.pointer q, .slice A1 l.length c1] 179)); clear hb hR)
    | (go_at_call 154; (with_reducible refine (HRT.out _ HBa.out).mono ?_); rintro e w3 ⟨rfl, hb⟩; have HB3 := Lk.mk (below_then HBa.out HBa.out.size hb); have HX3 := Lk.mk (blk_below (blk_new w1 (.cells #[.pointer q, .slice A1 l.length c1] 179)) hb); have HR3 := Lk.mk (Kd.R_below (Kd.R_alloc (Kd.R_mono (Kd.R_bound HR1.out) (fun k hk => hk.2.2.1)) (.cells #[.pointer q, .slice A1 l.length c1] 179)) hb); have HL3 := Lk.mk (blk_below (blk_alloc HL1.out (.cells #[.pointer q, .slice A1 l.length c1] 179)) hb); have HO3 := Lk.mk (blk_below (blk_alloc HO1.out (.cells #[.pointer q, .slice A1 l.length c1] 179)) hb); have HE3 := Lk.mk (blk_below (blk_alloc HE1.out (.cells #[.pointer q, .slice A1 l.length c1] 179)) hb); have hsz3 : w1.heap.size ≤ w3.heap.size := Nat.le_trans (by simp) hb.size; clear hb)
    | (go_at_call 112; (with_reducible refine (mmust_ok _ _).mono ?_); rintro e w' ⟨rfl, hw⟩; obtain rfl := hw.symm; clear hw)
    | (go_at_fn g; (with_reducible refine (HHW.out w3 w1.heap.size (.slice A1 l.length c1) ts HTS.out HND.out HB3.out (by omega) HX3.out HR3.out).mono ?_); rintro e w4 hw4; obtain ⟨hb, hor⟩ := hw4.open_; have HL4 := Lk.mk ((hb.block _ (by omega)).trans HL3.out); have HO4 := Lk.mk ((hb.block _ (by omega)).trans HO3.out); have HE4 := Lk.mk ((hb.block _ (by omega)).trans HE3.out); have HBw := Lk.mk (show Below w.heap.size w w4 from HB3.out.trans ⟨hb.os, hb.tape, hb.output, hb.size, fun k hk => hb.block k (by omega)⟩); have hsz4 := hb.size; have oc := blk_cell HO4.out 0; have oz := blk_frozen HO4.out 0; have ec := blk_cell HE4.out 0; have ez := blk_frozen HE4.out 0; simp only [List.getElem?_toArray, List.getElem?_cons_zero] at oc ec; clear hb hw4; rcases hor with ⟨rfl, A', c', l', hres, hx1, hR⟩ | ⟨n, hn, herr, rfl⟩))
  · have HO5 := Lk.mk (blk_put (cs' := #[.slice A' l'.length c']) HO4.out 0 (.slice A' l'.length c') rfl)
    have HE5 := Lk.mk ((Below.heap_setCell w4 ⟨w.heap.size + 1, 0, none⟩ (.slice A' l'.length c') _ (by show w.heap.size + 1 + 1 ≠ w.heap.size + 1; omega)).trans HE4.out)
    have HO6 := Lk.mk ((Below.heap_setCell _ ⟨w.heap.size + 1 + 1, 0, none⟩ (.int .i64 0) _ (by show w.heap.size + 1 ≠ w.heap.size + 1 + 1; omega)).trans HO5.out)
    have HE6 := Lk.mk (blk_put (cs' := #[.int .i64 0]) HE5.out 0 (.int .i64 0) rfl)
    have HB6 := Lk.mk ((HBw.out.setCell (p := ⟨w.heap.size + 1, 0, none⟩) (Nat.le_succ _) (.slice A' l'.length c')).setCell (p := ⟨w.heap.size + 1 + 1, 0, none⟩) (by show w.heap.size ≤ w.heap.size + 1 + 1; omega) (.int .i64 0))
    have HR6 := Lk.mk (Kd.R_far (Kd.R_far (Kd.R_mono (Kd.R_bound hR) (fun k hk => hk.2.1)) (p := ⟨w.heap.size + 1, 0, none⟩) (fun k hk => by show k ≠ w.heap.size + 1; omega) (.slice A' l'.length c')) (p := ⟨w.heap.size + 1 + 1, 0, none⟩) (fun k hk => by show k ≠ w.heap.size + 1 + 1; omega) (.int .i64 0))
    have or6 := blk_cell HO6.out 0
    have or5 := blk_cell HO5.out 0
    have er6 := blk_cell HE6.out 0
    simp only [List.getElem?_toArray, List.getElem?_cons_zero] at or6 er6 or5
    refine leaves_cons (f := 153) (args := #[.pointer (some ⟨w.heap.size + 1 + 1, 0, none⟩)]) (by simp) (by simp [go_sem]) ?_
    refine (mcaught_idle _ _).mono ?_
    rintro e u' w'' ⟨rfl, rfl, rfl⟩
    dsimp only [settle]
    refine leaves_cons (f := 152) (args := #[.pointer (some ⟨w.heap.size + 1 + 1, 0, none⟩), .pointer (some ⟨w.heap.size, 0, none⟩), .pointer (some ⟨w.heap.size + 1, 0, none⟩)]) (by simp) (by simp [go_sem]) ?_
    refine (mch1_idle _ _ _ _ _ HE6.out).mono ?_
    rintro e u' w'' ⟨rfl, rfl, rfl⟩
    simp [Leaves, settle, results, Tryd.results110, go_sem]
    refine ⟨.tuple #[.slice A' l'.length c', .int .i64 0], ?_, HB6.out, _, l', 0, rfl, Kd.R_lower (Kd.R_mono HR6.out (fun _ _ => trivial)) (by omega), .inl ⟨rfl, hres⟩⟩
    first | rw [or6] | rw [or5]
    dsimp only [Result.andThen]
    rw [er6]
  · have HW5 := Lk.mk (blk_alloc HE4.out (.cells #[.int .i64 n] 205))
    have HE5 := Lk.mk (blk_put (cs' := #[.int .i64 n]) HW5.out 0 (.int .i64 n) rfl)
    have HO5 := Lk.mk ((Below.heap_setCell (w4.alloc (.cells #[.int .i64 n] 205)) ⟨w.heap.size + 1 + 1, 0, none⟩ (.int .i64 n) _ (by show w.heap.size + 1 ≠ w.heap.size + 1 + 1; omega)).trans (blk_alloc HO4.out (.cells #[.int .i64 n] 205)))
    have HL5 := Lk.mk ((Below.heap_setCell (w4.alloc (.cells #[.int .i64 n] 205)) ⟨w.heap.size + 1 + 1, 0, none⟩ (.int .i64 n) _ (by show w.heap.size ≠ w.heap.size + 1 + 1; omega)).trans (blk_alloc HL4.out (.cells #[.int .i64 n] 205)))
    have HB5 := Lk.mk ((below_alloc HBw.out (.cells #[.int .i64 n] 205)).setCell (p := ⟨w.heap.size + 1 + 1, 0, none⟩) (by show w.heap.size ≤ w.heap.size + 1 + 1; omega) (.int .i64 n))
    refine leaves_cons (f := 153) (args := #[.pointer (some ⟨w.heap.size + 1 + 1, 0, none⟩)]) (by simp) (by simp [go_sem]) ?_
    refine (mcaught_thrown (w.heap.size + 1 + 1) (.int .i64 0) n _ ec ez).mono ?_
    rintro e u' w'' ⟨rfl, rfl, rfl⟩
    simp only [settle, List.dropWhile]
    refine leaves_cons (f := 152) (args := #[.pointer (some ⟨w.heap.size + 1 + 1, 0, none⟩), .pointer (some ⟨w.heap.size, 0, none⟩), .pointer (some ⟨w.heap.size + 1, 0, none⟩)]) (by simp) (by simp [go_sem]) ?_
    refine (mch1_err _ _ _ _ n A c l _ _ hn HE5.out HL5.out HO5.out (Kd.C_below HRC.out HB5.out) HLN.out).mono ?_
    rintro e u' w'' ⟨rfl, rfl, v, w6, hR, hb, rfl⟩
    have HE6 := Lk.mk (blk_below HE5.out hb)
    have HO6 := Lk.mk (blk_below HO5.out hb)
    have HO7 := Lk.mk (blk_put (cs' := #[v]) HO6.out 0 v rfl)
    have HE7 := Lk.mk ((Below.heap_setCell w6 ⟨w.heap.size + 1, 0, none⟩ v _ (by show w.heap.size + 1 + 1 ≠ w.heap.size + 1; omega)).trans HE6.out)
    have or6 := blk_cell HO7.out 0
    have er6 := blk_cell HE7.out 0
    simp only [List.getElem?_toArray, List.getElem?_cons_zero] at or6 er6
    have HB7 := Lk.mk ((below_then HB5.out HB5.out.size hb).setCell (p := ⟨w.heap.size + 1, 0, none⟩) (Nat.le_succ _) v)
    have hsz5 : w.heap.size + 1 + 1 < ((w4.alloc (.cells #[.int .i64 n] 205)).setCell ⟨w.heap.size + 1 + 1, 0, none⟩ (.int .i64 n)).heap.size := blk_lt HE5.out
    have HR7 := Lk.mk (Kd.R_far (Kd.R_mono (Kd.R_bound hR) (fun k hk => hk.2.1)) (p := ⟨w.heap.size + 1, 0, none⟩) (fun k hk => by show k ≠ w.heap.size + 1; omega) v)
    simp [Leaves, settle, results, Tryd.results110, go_sem]
    refine ⟨.tuple #[v, .int .i64 n], ?_, HB7.out, v, l, n, rfl, Kd.R_lower (Kd.R_mono HR7.out (fun _ _ => trivial)) (by omega), .inr ⟨hn, herr, rfl⟩⟩
    rw [or6]
    dsimp only [Result.andThen]
    rw [er6]
end Go.Proofs.YtcepafllgjnngaaDoor
