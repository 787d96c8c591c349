/-
  The walks of the model's Call and Return at a function without slots; conditions: the row and the table read as told, the row is right.
-/
import Derived.Test.YtbikdngpannekaaDoorPg
namespace Go.Proofs.YtbikdngpannekaaDoor
open Go.RowKit Go.Proofs.YtbikdngpannekaaDoorW.PrintWords

theorem vl_zero (W : World) (b : Nat) (okp : Nat → Prop) : kVl.M W b okp (0, 0, 0, 0) (Value.agg #[.int .u8 0, .int .u64 0, .int .i64 0, .int .i64 0]).cells.toList := by
  exact ⟨[_], [_, _, _], rfl, rfl, ⟨[_], [_, _], rfl, rfl, ⟨[_], [_], rfl, rfl, rfl⟩⟩⟩
set_option maxRecDepth 100000 in
set_option maxHeartbeats 2000000 in
theorem mcall1_zero (q : Option Addr) (ent : List (Int × (List Int × List Int))) (f : Int) (l : List Af) (B bf qr : Nat) (v : Value) (W : World) (hl : AfLen l) (hl2 : l.length < 1048576) (ht : TblOr W (.pointer q) ent) (hs : tSize ent f = 0) (hB : bf < B) (hB2 : B ≤ qr) (hbf : W.heap[bf]? = some (.cells #[.int .i64 f] 3 (0, 0))) (hq : W.heap[qr]? = some (.cells #[.pointer q, v] 130 (0, 0))) (hR : kAf.R 124 W B (fun k => k < qr) v l) :
    Calls Tryd.prog 85 #[.pointer (some ⟨qr, 0, none⟩), .pointer (some ⟨bf, 0, none⟩)] W fun e W' => HowL (fun l' => l' = l ++ [(f, [])]) (fun _ => False) (.pointer q) B qr W e W' := by
  obtain ⟨A, c, rfl, _, _⟩ := Kd.R_reads hR
  have HSZ := Lk.mk (fun W' (hb : Below W.heap.size W W') => hs ▸ size_any (.pointer q) ent f W' (ht.below hb))
  have HD := Lk.mk (below_drew (Below.refl W.heap.size W))
  have HD2 := Lk.mk (below_drew HD.out)
  have hqd := blk_drew hq
  have hfd := blk_drew hbf
  obtain ⟨q0, q1⟩ := cells2v hqd
  have f0 := blk_cell hfd 0
  simp only [List.getElem?_toArray, List.getElem?_cons_zero] at f0
  obtain ⟨r0, r1⟩ := cells2v (blk_drew hqd)
  have s0 := blk_cell (blk_drew hfd) 0
  simp only [List.getElem?_toArray, List.getElem?_cons_zero] at s0
  have hqa := blk_drew (blk_drew (blk_alloc hq (.cells #[] 27)))
  have hfa := blk_drew (blk_drew (blk_alloc hbf (.cells #[] 27)))
  obtain ⟨t0, t1⟩ := cells2v hqa
  have u0 := blk_cell hfa 0
  simp only [List.getElem?_toArray, List.getElem?_cons_zero] at u0
  obtain ⟨x0, x1⟩ := cells2v (blk_drew hqa)
  have y0 := blk_cell (blk_drew hfa) 0
  simp only [List.getElem?_toArray, List.getElem?_cons_zero] at y0
  have HBa := Lk.mk (below_drew (below_drew (below_drew (below_alloc (Below.refl W.heap.size W) (.cells #[] 27)))))
  have HR := Lk.mk (Kd.R_below hR HBa.out)
  have HQ := Lk.mk (blk_drew hqa)
  have HQ0 := Lk.mk hq
  have HF0 := Lk.mk hbf
  have HLW := Lk.mk (blk_lt hq)
  have HOWN := Lk.mk (show ∀ k, (Value.slice A l.length c).ownBlock = some k → k < qr from fun k hk => hR.1 k hk)
  have HL := Lk.mk hl
  have HL2 := Lk.mk hl2
  have HBB := Lk.mk hB
  have HBQ := Lk.mk hB2
  clear hR ht hs hbf hq hqd hfd hl hl2 hB hB2 hqa hfa
  have HB0 := Lk.mk (show Below B W ((W.alloc (.cells #[] 27)).drew.drew.drew) from ⟨HBa.out.os, HBa.out.tape, HBa.out.output, by have := HBa.out.size; omega, fun k hk => HBa.out.block k (by have := HLW.out; have := HBQ.out; omega)⟩)
  have hP1 : kVl.R 27 (W.alloc (.cells #[] 27)) W.heap.size (fun k => W.heap.size ≤ k) (.slice (some ⟨W.heap.size, 0, none⟩) 0 0) [] := ⟨fun k hk => (show W.heap.size = k by simpa [Value.ownBlock] using hk) ▸ Nat.le_refl _, [], World.ownsRow_lit (base := W.heap.size) (e := 27) (size := 4) W #[] 0 (Nat.le_refl _) (by decide) (by rfl), Reps.none _ _⟩
  have HP := Lk.mk (af_M (b := B) (m := W.heap.size) (s := f) (Kd.R_drew (Kd.R_drew (Kd.R_drew hP1))) (by have := HLW.out; have := HBQ.out; omega) (Nat.le_refl _))
  clear hP1
  have HBS := Lk.mk (show B ≤ ((W.alloc (.cells #[] 27)).drew.drew.drew).heap.size by have := HBa.out.size; have := HLW.out; have := HBQ.out; omega)
  have HOK := Lk.mk (show ∀ k, W.heap.size ≤ k → k ≠ qr ∧ some k ≠ (Value.slice A l.length c).ownBlock from fun k hk => ⟨by have := HLW.out; omega, fun e => by have := HOWN.out k e.symm; have := HLW.out; omega⟩)
  have HFR := Lk.mk (show ∀ k, ((W.alloc (.cells #[] 27)).drew.drew.drew).heap.size ≤ k → k ≠ qr from fun k hk => by have := HBa.out.size; have := HLW.out; omega)
  have HRm := Lk.mk (Kd.R_mono HR.out (fun k hk => (Nat.ne_of_lt hk : k ≠ qr)))
  have HLN := Lk.mk (show (l.length + 1) * 32 ≤ 140737488355328 by have := HL2.out; omega)
  have HLQ := Lk.mk (show qr < ((W.alloc (.cells #[] 27)).drew.drew.drew).heap.size by have := HBa.out.size; have := HLW.out; omega)
  have HNE := Lk.mk (show some qr ≠ (Value.slice A l.length c).ownBlock from fun e => by have := HOWN.out qr e.symm; omega)
  obtain ⟨z0, z1⟩ := cells2v (blk_alloc (blk_alloc HQ0.out (.cells #[] 27)) (.cells #[.int .i64 f, .slice (some ⟨W.heap.size, 0, none⟩) 0 0] 124))
  have zf := blk_cell (blk_alloc (blk_alloc HF0.out (.cells #[] 27)) (.cells #[.int .i64 f, .slice (some ⟨W.heap.size, 0, none⟩) 0 0] 124)) 0
  simp only [List.getElem?_toArray, List.getElem?_cons_zero] at zf
  have HSW := Lk.mk (show ((W.alloc (.cells #[] 27)).drew.drew.drew).heap.size = W.heap.size + 1 by show (W.alloc _).heap.size = _; simp)
  have hmk : ∀ w : World, (Instr.makeSlice 22 (.int .i64 0) (.int .i64 0)).run Tryd.prog w = .ok (.slice (some ⟨w.heap.size, 0, none⟩) 0 0) (w.alloc (.cells #[] 27)) := fun _ => by kernel_rfl
  go_enter Tryd.func85, Tryd.ntmps85
  go_wp2
  go_region_held3 (fun W' => W'.cell? ⟨qr, 0, none⟩ = some (.pointer q) ∧ W'.cell? ⟨bf, 0, none⟩ = some (.int .i64 f)) (first | exact ⟨q0, f0⟩) (first
    | (go_at_call 82; (with_reducible refine (HSZ.out _ HD.out).mono ?_); rintro e w' ⟨rfl, hw⟩; obtain rfl := hw.symm; clear hw)
    | (go_at_call 86; (with_reducible refine (mmust_ok _ _).mono ?_); rintro e w' ⟨rfl, hw⟩; obtain rfl := hw.symm; clear hw))
  go_wp2
  go_region_held3 (fun W' => W'.cell? ⟨qr, 0, none⟩ = some (.pointer q) ∧ W'.cell? ⟨bf, 0, none⟩ = some (.int .i64 f)) (first | exact ⟨r0, s0⟩ | exact ⟨t0, u0⟩) (first
    | (go_at_call 82; (with_reducible refine (HSZ.out _ HD2.out).mono ?_); rintro e w' ⟨rfl, hw⟩; obtain rfl := hw.symm; clear hw))
  go_wp2
  go_loopg [22] 0 (fun gg v22 wr => v22 = .int .i64 0 ∧ wr = (W.alloc (.cells #[] 27)).drew.drew)
  case atStart => exact ⟨rfl, rfl⟩
  case round =>
    obtain ⟨rfl, rfl⟩ := hrel
    go_wp2
    go_region_law (refine Kd.R_append_step (w0 := W) kAf B (by rfl) _ _ 68 124 _ 32 (by rfl) Tryd.underlying68 infoAf rfl (by decide) (by decide) (.slice A l.length c) l (f, []) _ (fun k => k ≠ qr) (fun k => W.heap.size ≤ k) (by rfl) (by rw [HSW.out]; rfl) HP.out HOK.out HFR.out HRm.out HB0.out HBS.out HLN.out ?_
                   intro v4 w4 hE4 hb4 hg4 hat4
                   obtain ⟨A4, c4, e4, hc4, hC4⟩ := Kd.R_reads hE4
                   rw [List.length_append, show [((f, []) : Af)].length = 1 from rfl] at e4
                   subst e4
                   have HG4 := Lk.mk ((hg4.block qr HLQ.out HNE.out).trans HQ.out)
                   have hf4 := blk_cell HG4.out 1
                   simp only [List.getElem?_toArray, List.getElem?_cons_zero, List.getElem?_cons_succ] at hf4
                   have hz4 := blk_frozen HG4.out 1)
    all_goals
      have HE4 := Lk.mk hE4
      have HB4 := Lk.mk hb4
      clear hE4 hb4 hg4 hat4 hC4 hc4
      go_wp2
      simp [bodyPost, results, Tryd.results85]
      exact ⟨HB4.out.setCell (p := ⟨qr, 1, none⟩) HBQ.out _, .inl ⟨rfl, _, _, rfl, blk_put HG4.out 1 _ rfl, Kd.R_far HE4.out (fun k hk => hk) _⟩⟩
end Go.Proofs.YtbikdngpannekaaDoor
