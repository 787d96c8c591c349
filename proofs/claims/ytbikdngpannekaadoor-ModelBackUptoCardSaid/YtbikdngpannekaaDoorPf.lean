/-
  The walks of the library's Clone at values and of the model's clone; conditions: the row reads as told.
-/
import Derived.Test.YtbikdngpannekaaDoorPe
namespace Go.Proofs.YtbikdngpannekaaDoor
open Go.RowKit Go.Proofs.YtbikdngpannekaaDoorW.PrintWords

theorem infoVl : (Tryd.prog.info? 27).map (fun i => (i.zero, i.size, i.bytes)) = some (some (.agg #[.int .u8 0, .int .u64 0, .int .i64 0, .int .i64 0]), 4, 32) := by kernel_rfl
theorem infoAf : (Tryd.prog.info? 124).map (fun i => (i.zero, i.size, i.bytes)) = some (some (.agg #[.int .i64 0, .slice none 0 0]), 2, 32) := by kernel_rfl
set_option maxRecDepth 100000 in
set_option maxHeartbeats 2000000 in
theorem cloneV (A : Option Addr) (c : Nat) (l : List Sl.Vl) (w : World) (hr : kVl.C w A l.length l) (hl : l.length ≤ 1048576) :
    Calls Tryd.prog 146 #[.slice A l.length c] w fun e w' => ∃ v, e = .returned v ∧ kVl.R 27 w' w.heap.size (fun k => w.heap.size ≤ k) v l ∧ Below w.heap.size w w' := by
  have hm := hr.2.1
  have q : ∀ (w : World) (a : Option Addr) (n c n' c' : Nat), (binOp .eql 22 (.slice a n c) (.slice none n' c')).run Tryd.prog w = .ok (.bool a.isNone) w := fun w a n c n' c' => Lib.run_eql_slice_nil w _ _ a n c n' c' Tryd.underlying22
  cases A with
  | none =>
    have h0 : l = [] := by
      cases l with
      | nil => rfl
      | cons x xs => obtain ⟨ad, h, _⟩ := hr.2.2 (by simp); cases h
    subst h0
    clear hr
    go_enter Tryd.func146, Tryd.ntmps146
    go_wp2
    go_ret
    exact ⟨_, rfl, Kd.R_nil _ _ _ _ _, Below.refl _ _⟩
  | some ad =>
    have HR := Lk.mk hr
    have HBa := Lk.mk (below_alloc (Below.refl w.heap.size w) (.cells #[] 27))
    clear hr
    go_enter Tryd.func146, Tryd.ntmps146
    go_wp2_with (at_builtin
                 refine Kd.R_append_rows (w0 := w) kVl w.heap.size rfl _ _ 22 27 _ 32 rfl Tryd.underlying22 infoVl rfl (show 0 < (4 : Nat) from by decide) (show 0 < (32 : Nat) from by decide) (.slice (some ⟨w.heap.size, 0, none⟩) 0 0) [] l (some ad) l.length c (fun k => w.heap.size ≤ k) (fun _ => False) rfl rfl ?q1 (Kd.C_below HR.out HBa.out) (fun _ _ h => h) (fun _ h => h.elim) ?q3 HBa.out HBa.out.size ?q2 ?_
                 case q1 => exact ⟨fun k hk => by have : w.heap.size = k := (by simpa [Value.ownBlock] using hk)
                                                  omega, [], World.ownsRow_lit (base := w.heap.size) (e := 27) (size := 4) w #[] 0 (Nat.le_refl _) (by decide) (by rfl), Reps.none _ _⟩
                 case q2 => (simp only [List.length_nil]; omega)
                 case q3 => (intro k hk; simp at hk; omega)
                 intro v4 w4 hR4 hb4 _ _
                 rw [List.nil_append] at hR4
                 have HR4 := Lk.mk hR4
                 have HB4 := Lk.mk hb4
                 clear hR4 hb4)
    go_ret
    exact ⟨_, rfl, HR4.out, HB4.out⟩
theorem af_M {w3 : World} {b B m : Nat} {s : Int} {xs : List Sl.Vl} {v3 : Value} (h3 : kVl.R 27 w3 B (fun k => B ≤ k) v3 xs) (hB : b ≤ B) (hm : m ≤ B) : kAf.M w3 b (fun k => m ≤ k) (s, xs) [.int .i64 s, v3] :=
  ⟨[_], [_], rfl, rfl, ⟨v3, rfl, Kd.R_lower (Kd.R_mono h3 (fun k hk => Nat.le_trans hm hk)) hB⟩⟩
theorem af_take {l : List Af} {k : Nat} (h : k < l.length) : l.take (k + 1) = l.take k ++ [l.getD k dAf] := by
  rw [List.take_add_one, List.getD_eq_getElem?_getD, List.getElem?_eq_getElem h]; rfl
def AfLen (l : List Af) : Prop := l.length ≤ 1048576 ∧ ∀ f ∈ l, f.2.length ≤ 1048576
set_option maxRecDepth 100000 in
set_option maxHeartbeats 2000000 in
theorem mclone_any (A : Option Addr) (c : Nat) (l : List Af) (w : World) (hr : kAf.C w A l.length l) (hl : AfLen l) :
    Calls Tryd.prog 124 #[.slice A l.length c] w fun e w' => ∃ v, e = .returned v ∧ kAf.R 124 w' w.heap.size (fun _ => True) v l ∧ Below w.heap.size w w' := by
  have hm := hr.2.1
  have hl0 := hl.1
  obtain ⟨i0, hi, hzz⟩ := Option.map_eq_some_iff.1 infoAf
  simp only [Prod.mk.injEq] at hzz
  obtain ⟨hz0, hz1, hz2⟩ := hzz
  obtain ⟨wm, hmk, hown, hgr⟩ := run_make_own (P := Tryd.prog) w w.heap.size 68 124 i0 _ 2 Tryd.underlying68 hi hz0 hz1 .i64 .i64 l.length (by rw [hz2]; omega) (by simp only [maxLen]; omega) (Nat.le_refl _)
  have HB0 := Lk.mk (show Below w.heap.size w wm from ⟨hgr.os, hgr.tape, hgr.output, hgr.size, fun k hk => hgr.block k hk (by simp)⟩)
  have HR0 := Lk.mk (show kAf.R 124 wm w.heap.size (fun _ => True) (.slice (some ⟨w.heap.size, 0, none⟩) 0 l.length) [] from ⟨fun _ _ => trivial, [], hown, Reps.none _ _⟩)
  have HRC := Lk.mk hr
  have HL := Lk.mk hl
  clear hr hl hown hgr hz0 hz1 hz2 hi
  go_enter Tryd.func124, Tryd.ntmps124
  go_wp2
  go_loopg [3, 11] l.length (fun gg v3 v11 wr => ∃ k : Nat, k ≤ l.length ∧ l.length - k ≤ gg ∧ v11 = .int .i64 k ∧ Lk (kAf.R 124 wr w.heap.size (fun _ => True) v3 (l.take k)) ∧ Lk (Below w.heap.size w wr))
  case atStart => exact ⟨0, by omega, by omega, rfl, HR0, HB0⟩
  case round =>
    obtain ⟨k, hk, hg, rfl, HE, HB⟩ := hrel
    clear hmk HR0 HB0
    by_cases hlt : k < l.length
    · have hltz : (k : Int) < (l.length : Int) := by omega
      obtain ⟨ad, A1, c1, rfl, b0, b1, hc1, hC1⟩ := kAf_at (Kd.C_below HRC.out HB.out) k hlt
      have HX := Lk.mk (af_take hlt)
      have HLK := Lk.mk (HL.out.2 (l.getD k dAf) (getD_mem _ hlt))
      have HLT := Lk.mk (show ((l.take k).length + 1) * 32 ≤ 140737488355328 by have := HL.out.1; rw [List.length_take]; omega)
      generalize l.getD k dAf = f at *
      obtain ⟨f0, f1⟩ := f
      dsimp only at *
      have HBa := Lk.mk (below_drew (below_alloc (Below.refl wr.heap.size wr) (.cells #[.int .i64 f0, .slice A1 f1.length c1] 124)))
      have HFa := Lk.mk (blk_drew (blk_new wr (.cells #[.int .i64 f0, .slice A1 f1.length c1] 124)))
      have HCl := Lk.mk (cloneV A1 c1 f1 _ (Kd.C_below hC1 HBa.out) HLK.out)
      have HV := Lk.mk (Kd.R_bound HE.out).1
      have HOK := Lk.mk (show ∀ k, wr.heap.size + 1 ≤ k → True ∧ some k ≠ u3.ownBlock from fun k hk => ⟨trivial, fun e => by have := (HV.out k e.symm).2.2.1; omega⟩)
      have hsz : (wr.alloc (.cells #[.int .i64 f0, .slice A1 f1.length c1] 124)).drew.heap.size = wr.heap.size + 1 := by show (wr.alloc _).heap.size = _; simp
      have HSZ := Lk.mk hsz
      have HS := HB.out.size
      obtain ⟨q0, q1⟩ := cells2v HFa.out
      clear hC1 hc1 hsz
      go_wp2
      go_region_held3 (fun W => W.cell? ⟨wr.heap.size, 0, none⟩ = some (.int .i64 f0) ∧ W.cell? ⟨wr.heap.size, 1, none⟩ = some (.slice A1 f1.length c1)) (first | exact ⟨q0, q1⟩ | exact ⟨pw_cell_below hb3 q0, pw_cell_below hb3 q1⟩ | exact ⟨pw_cell_below (below_alloc hb3 _) q0, pw_cell_below (below_alloc hb3 _) q1⟩ | exact K4.out) (first
        | (go_at_call 146; (with_reducible refine (HCl.out).mono ?_); rintro e w3 ⟨v3, rfl, ho3, hb3⟩; rw [HSZ.out] at ho3; obtain ⟨A3, c3, rfl, _, _⟩ := Kd.R_reads ho3; have HBx := Lk.mk (below_then HB.out HB.out.size (below_then HBa.out HBa.out.size hb3)))
        | (have HP := Lk.mk (af_M (b := w.heap.size) (m := wr.heap.size + 1) (s := f0) ho3 (by omega) (Nat.le_refl _))
           have HR4 := Lk.mk (Kd.R_below (Kd.R_below HE.out HBa.out) hb3)
           refine Kd.R_append_step (w0 := w) kAf w.heap.size (by rfl) _ _ 68 124 _ 32 (by rfl) Tryd.underlying68 infoAf rfl (by decide) (by decide) u3 _ (f0, f1) _ (fun _ => True) (fun k => wr.heap.size + 1 ≤ k) (by rfl) (by rfl) HP.out HOK.out (fun _ _ => trivial) HR4.out HBx.out HBx.out.size HLT.out ?_
           intro v4 w4 hE4 hb4 hg4 hat4
           have K4 := Lk.mk (show w4.cell? ⟨wr.heap.size, 0, none⟩ = some (.int .i64 f0) ∧ w4.cell? ⟨wr.heap.size, 1, none⟩ = some (.slice A1 f1.length c1) from by
             have hne : some wr.heap.size ≠ u3.ownBlock := fun e => by have := (HV.out _ e.symm).2.2.1; omega
             have h5 := (hg4.block _ (blk_lt (blk_below HFa.out hb3)) hne).trans (blk_below HFa.out hb3)
             exact cells2v h5)))
      go_wp2
      have HE4 := Lk.mk hE4
      have HB4 := Lk.mk hb4
      clear hE4 hb4 hg4 hat4
      go_roundg (l.length - (k + 1))
      case measure => omega
      case rel => exact ⟨k + 1, by omega, by omega, by go_num, ⟨by rw [HX.out]; exact HE4.out⟩, HB4⟩
    · have hltz : ¬ (k : Int) < (l.length : Int) := by omega
      obtain rfl : k = l.length := by omega
      rw [List.take_length] at HE
      go_wp2
      go_ret
      exact ⟨_, rfl, HE.out, HB.out⟩
end Go.Proofs.YtbikdngpannekaaDoor
