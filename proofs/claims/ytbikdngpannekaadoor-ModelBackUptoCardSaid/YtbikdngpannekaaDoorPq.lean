/-
  Rows whose elements' own block is told by a number (a tag): a store into one element's row leaves the others; conditions: the tags differ.
-/
import Derived.Test.YtbikdngpannekaaDoorPo
namespace Go.Proofs.YtbikdngpannekaaDoor
open Go.RowKit Go.Proofs.YtbikdngpannekaaDoorW.PrintWords

/-- an element and the one block that it owns -/
def tagK {α : Type} (d : Kd α) : Kd (α × Nat) where
  sz := d.sz
  E := d.E
  K := fun w x cs => d.K w x.1 cs
  M := fun w base ok x cs => d.M w base (fun k => ok k ∧ k = x.2) x.1 cs
  K_len := fun h => d.K_len h
  K_one := fun h => d.K_one h
  K_below := fun hb h => d.K_below hb h
  K_of_M := fun h => d.K_of_M h
  M_mono := fun hok h => d.M_mono (fun k hk => ⟨hok k hk.1, hk.2⟩) h
  M_bound := fun h => d.M_mono (fun k hk => ⟨⟨hk.1.1, hk.2⟩, hk.1.2⟩) (d.M_bound h)
  M_move := fun hm h => d.M_move (fun k hk => hm k hk.1) h
  M_lower := fun hb h => d.M_lower hb h
theorem vls_M_any {w : World} {b b' : Nat} {ok ok' : Nat → Prop} {x : Sl.Vl} {cs : List Value} (h : kVl.M w b ok x cs) : kVl.M w b' ok' x cs := h
theorem vls_tag {w : World} {b : Nat} {ok : Nat → Prop} {v : Value} {xs : List Sl.Vl} (h : kVl.R 27 w b ok v xs) (t : Nat) (ht : ∀ k, v.ownBlock = some k → k = t) : kVl.R 27 w b (fun k => k = t) v xs := by
  obtain ⟨_, inner, ho, hr⟩ := h
  exact ⟨ht, inner, ho, hr.imp_ (fun _ _ hp => vls_M_any hp)⟩
theorem af_tag {w3 : World} {b B m : Nat} {s : Int} {xs : List Sl.Vl} {v3 : Value} (h3 : kVl.R 27 w3 B (fun k => B ≤ k) v3 xs) (hB : b ≤ B) (t : Nat) (hm : m ≤ t) (ht : ∀ k, v3.ownBlock = some k → k = t) : (tagK kAf).M w3 b (fun k => m ≤ k) ((s, xs), t) [.int .i64 s, v3] :=
  ⟨[_], [_], rfl, rfl, ⟨v3, rfl, Kd.R_lower (Kd.R_mono (vls_tag h3 t ht) (fun k hk => ⟨by have h9 : k = t := hk; rw [h9]; exact hm, hk⟩)) hB⟩⟩
theorem tag_C {α : Type} {d : Kd α} {w : World} {A : Option Addr} {n : Nat} {xs : List (α × Nat)} (h : (tagK d).C w A n xs) : d.C w A n (xs.map (·.1)) := by
  refine ⟨by rw [List.length_map]; exact h.1, h.2.1, fun hp => ?_⟩
  obtain ⟨ad, e, hc⟩ := h.2.2 hp
  refine ⟨ad, e, fun j p hj => ?_⟩
  rw [List.getElem?_map] at hj
  obtain ⟨y, hy, rfl⟩ := Option.map_eq_some_iff.1 hj
  exact hc j y hy
theorem tag_of {w3 : World} {B0 : Nat} {v3 : Value} {xs : List Sl.Vl} (h3 : kVl.R 27 w3 (B0 + 1) (fun k => B0 + 1 ≤ k) v3 xs) (hlt : B0 < w3.heap.size) : ∃ tg : Nat, B0 ≤ tg ∧ (∀ k, v3.ownBlock = some k → k = tg) ∧ tg < w3.heap.size := by
  cases h : v3.ownBlock with
  | none => exact ⟨B0, Nat.le_refl _, (fun k hk => by cases hk), hlt⟩
  | some b => exact ⟨b, Nat.le_of_succ_le (h3.1 b h), (fun k hk => by cases hk; rfl), ((Kd.R_bound h3).1 b h).2.2.1⟩
theorem tags_next {ts : List Nat} {a b n tg : Nat} (h : ts.Nodup ∧ ∀ t ∈ ts, n ≤ t ∧ t < a) (h1 : a ≤ tg) (h2 : tg < b) (h3 : n ≤ a) (h4 : a ≤ b) : (ts ++ [tg]).Nodup ∧ ∀ t ∈ ts ++ [tg], n ≤ t ∧ t < b := by
  refine ⟨?_, fun t ht => ?_⟩
  · rw [List.nodup_append]
    refine ⟨h.1, by simp, fun x hx y hy => ?_⟩
    obtain rfl : y = tg := by simpa using hy
    have := (h.2 x hx).2
    omega
  · rcases List.mem_append.1 ht with ht | ht
    · have := h.2 t ht; omega
    · obtain rfl : t = tg := by simpa using ht
      omega
set_option maxRecDepth 100000 in
set_option maxHeartbeats 2000000 in
theorem mclone_tag (A : Option Addr) (c : Nat) (l : List Af) (w : World) (hr : kAf.C w A l.length l) (hl : AfLen l) :
    Calls Tryd.prog 124 #[.slice A l.length c] w fun e w' => ∃ v, e = .returned v ∧ ∃ ts : List Nat, ts.length = l.length ∧ ts.Nodup ∧ (∀ t ∈ ts, w.heap.size ≤ t) ∧ (tagK kAf).R 124 w' w.heap.size (fun _ => True) v (l.zip ts) ∧ Below w.heap.size w w' := by
  have hm := hr.2.1
  have hl0 := hl.1
  obtain ⟨i0, hi, hzz⟩ := Option.map_eq_some_iff.1 infoAf
  simp only [Prod.mk.injEq] at hzz
  obtain ⟨hz0, hz1, hz2⟩ := hzz
  obtain ⟨wm, hmk, hown, hgr⟩ := run_make_own (P := Tryd.prog) w w.heap.size 68 124 i0 _ 2 Tryd.underlying68 hi hz0 hz1 .i64 .i64 l.length (by rw [hz2]; omega) (by simp only [maxLen]; omega) (Nat.le_refl _)
  have HB0 := Lk.mk (show Below w.heap.size w wm from ⟨hgr.os, hgr.tape, hgr.output, hgr.size, fun k hk => hgr.block k hk (by simp)⟩)
  have HR0 := Lk.mk (show (tagK kAf).R 124 wm w.heap.size (fun _ => True) (.slice (some ⟨w.heap.size, 0, none⟩) 0 l.length) [] from ⟨fun _ _ => trivial, [], hown, Reps.none _ _⟩)
  have HRC := Lk.mk hr
  have HL := Lk.mk hl
  clear hr hl hown hgr hz0 hz1 hz2 hi
  go_enter Tryd.func124, Tryd.ntmps124
  go_wp2
  go_loopg [3, 11] l.length (fun gg v3 v11 wr => ∃ k : Nat, k ≤ l.length ∧ l.length - k ≤ gg ∧ v11 = .int .i64 k ∧ ∃ ts : List Nat, Lk ((tagK kAf).R 124 wr w.heap.size (fun _ => True) v3 ((l.take k).zip ts)) ∧ Lk (ts.length = k ∧ ts.Nodup ∧ ∀ t ∈ ts, w.heap.size ≤ t ∧ t < wr.heap.size) ∧ Lk (Below w.heap.size w wr))
  case atStart => exact ⟨0, by omega, by omega, rfl, [], HR0, ⟨rfl, List.nodup_nil, fun t ht => by cases ht⟩, HB0⟩
  case round =>
    obtain ⟨k, hk, hg, rfl, ts, HE, HTS, HB⟩ := hrel
    clear hmk HR0 HB0
    by_cases hlt : k < l.length
    · have hltz : (k : Int) < (l.length : Int) := by omega
      obtain ⟨ad, A1, c1, rfl, b0, b1, hc1, hC1⟩ := kAf_at (Kd.C_below HRC.out HB.out) k hlt
      have HX := Lk.mk (af_take hlt)
      have HLK := Lk.mk (HL.out.2 (l.getD k dAf) (getD_mem _ hlt))
      have HLT := Lk.mk (show (((l.take k).zip ts).length + 1) * 32 ≤ 140737488355328 by have := HL.out.1; rw [List.length_zip, List.length_take]; omega)
      generalize l.getD k dAf = f at *
      obtain ⟨f0, f1⟩ := f
      dsimp only at *
      have HBa := Lk.mk (below_drew (below_alloc (Below.refl wr.heap.size wr) (.cells #[.int .i64 f0, .slice A1 f1.length c1] 124)))
      have HFa := Lk.mk (blk_drew (blk_new wr (.cells #[.int .i64 f0, .slice A1 f1.length c1] 124)))
      have HCl := Lk.mk (cloneV A1 c1 f1 _ (Kd.C_below hC1 HBa.out) HLK.out)
      have HV := Lk.mk (Kd.R_bound HE.out).1
      have HOK := Lk.mk (show ∀ k, wr.heap.size ≤ k → True ∧ some k ≠ u3.ownBlock from fun k hk => ⟨trivial, fun e => by have := (HV.out k e.symm).2.2.1; omega⟩)
      have hsz : (wr.alloc (.cells #[.int .i64 f0, .slice A1 f1.length c1] 124)).drew.heap.size = wr.heap.size + 1 := by show (wr.alloc _).heap.size = _; simp
      have HSZ := Lk.mk hsz
      have HS := HB.out.size
      obtain ⟨q0, q1⟩ := cells2v HFa.out
      clear hC1 hc1 hsz
      go_wp2
      go_region_held3 (fun W => W.cell? ⟨wr.heap.size, 0, none⟩ = some (.int .i64 f0) ∧ W.cell? ⟨wr.heap.size, 1, none⟩ = some (.slice A1 f1.length c1)) (first | exact ⟨q0, q1⟩ | exact ⟨pw_cell_below hb3 q0, pw_cell_below hb3 q1⟩ | exact ⟨pw_cell_below (below_alloc hb3 _) q0, pw_cell_below (below_alloc hb3 _) q1⟩ | exact K4.out) (first
        | (go_at_call 146; (with_reducible refine (HCl.out).mono ?_); rintro e w3 ⟨v3, rfl, ho3, hb3⟩; rw [HSZ.out] at ho3; obtain ⟨A3, c3, rfl, _, _⟩ := Kd.R_reads ho3; have HBx := Lk.mk (below_then HB.out HB.out.size (below_then HBa.out HBa.out.size hb3)))
        | (have HTG := Lk.mk (tag_of ho3 (by have := hb3.size; rw [HSZ.out] at this; omega))
           obtain ⟨tg, htg0, htg1, htg2⟩ := HTG.out
           have HP := Lk.mk (af_tag (b := w.heap.size) (m := wr.heap.size) (s := f0) ho3 (by omega) tg htg0 htg1)
           have HTG2 := Lk.mk htg0
           have HTG3 := Lk.mk htg2
           have HS3 := Lk.mk (show wr.heap.size ≤ w3.heap.size by have := hb3.size; rw [HSZ.out] at this; omega)
           have HR4 := Lk.mk (Kd.R_below (Kd.R_below HE.out HBa.out) hb3)
           refine Kd.R_append_step (w0 := w) (tagK kAf) w.heap.size (by rfl) _ _ 68 124 _ 32 (by rfl) Tryd.underlying68 infoAf rfl (by decide) (by decide) u3 _ ((f0, f1), tg) _ (fun _ => True) (fun k => wr.heap.size ≤ k) (by rfl) (by rfl) HP.out HOK.out (fun _ _ => trivial) HR4.out HBx.out HBx.out.size HLT.out ?_
           intro v4 w4 hE4 hb4 hg4 hat4
           have HS4 := Lk.mk hg4.size
           have K4 := Lk.mk (show w4.cell? ⟨wr.heap.size, 0, none⟩ = some (.int .i64 f0) ∧ w4.cell? ⟨wr.heap.size, 1, none⟩ = some (.slice A1 f1.length c1) from by
             have hne : some wr.heap.size ≠ u3.ownBlock := fun e => by have := (HV.out _ e.symm).2.2.1; omega
             have h5 := (hg4.block _ (blk_lt (blk_below HFa.out hb3)) hne).trans (blk_below HFa.out hb3)
             exact cells2v h5)))
      go_wp2
      have HE4 := Lk.mk hE4
      have HB4 := Lk.mk hb4
      clear hE4 hb4 hg4 hat4
      go_roundg (l.length - (k + 1))
      case measure => omega
      case rel =>
        refine ⟨k + 1, by omega, by omega, by go_num, ts ++ [tg], ⟨by rw [HX.out, List.zip_append (by rw [List.length_take]; have := HTS.out.1; omega)]; exact HE4.out⟩, ⟨by rw [List.length_append, HTS.out.1]; rfl, tags_next HTS.out.2 HTG2.out (Nat.lt_of_lt_of_le HTG3.out HS4.out) HB.out.size (Nat.le_trans HS3.out HS4.out)⟩, HB4⟩
    · have hltz : ¬ (k : Int) < (l.length : Int) := by omega
      obtain rfl : k = l.length := by omega
      rw [List.take_length] at HE
      go_wp2
      go_ret
      exact ⟨_, rfl, ts, HTS.out.1, HTS.out.2.1, (fun t ht => (HTS.out.2.2 t ht).1), HE.out, HB.out⟩
end Go.Proofs.YtbikdngpannekaaDoor
