/-
  The walk of a table's Fns; condition: the table reads as told.
-/
import Derived.Test.YtcepafllgjnngaaDoorK1
namespace Go.Proofs.YtcepafllgjnngaaDoor
open Go.RowKit Go.Proofs.YtcepafllgjnngaaDoorW.PrintWords

def kF : Kd (Int × List Int) := Kd.pair (Kd.int .i64) (Kd.slice 23 (Kd.int .u64))
theorem kF_fnC {w : World} {A : Option Addr} {n : Nat} {l : List (Int × List Int)} (h : kF.C w A n l) : FnC w A n l := by
  refine ReadsRow.imp_ h (Below.refl _ _) ?_
  rintro x cs ⟨c0, c1, rfl, rfl, A1, n1, rfl, hl, hc⟩
  exact ⟨A1, n1, rfl, hl, Kd.reads_of_C hc⟩
def fnOf (e : Int × (List Int × List Int)) : Int × List Int := (e.1, e.2.1)
theorem infoF : (Tryd.prog.info? 28).map (fun i => (i.zero, i.size, i.bytes)) = some (some (.agg #[.int .i64 0, .slice none 0 0]), 2, 32) := by kernel_rfl
theorem fn_M {w3 : World} {b B3 m : Nat} {s : Int} {xs : List Int} {v3 : Value} (h3 : w3.ownsRow B3 23 1 v3 xs.length (nums .u64 xs)) (hB3 : b ≤ B3) (hm3 : m ≤ B3) : kF.M w3 b (fun k => m ≤ k) (s, xs) [.int .i64 s, v3] :=
  ⟨[_], [_], rfl, rfl, ⟨v3, rfl, Kd.R_lower (Kd.R_of_own (h1 := fun _ => rfl) h3 (fun k hk => Nat.le_trans hm3 (own_base h3 k hk))) hB3⟩⟩
theorem take_nextE {ent : List (Int × (List Int × List Int))} {kk : Nat} (h : kk < ent.length) : (ent.take (kk + 1)).map fnOf = (ent.take kk).map fnOf ++ [fnOf (ent.getD kk dE)] := by
  rw [List.take_add_one, List.map_append, List.getD_eq_getElem?_getD, List.getElem?_eq_getElem h]; rfl

set_option maxRecDepth 100000 in
set_option maxHeartbeats 2000000 in
theorem fns_any (p : Value) (ent : List (Int × (List Int × List Int))) (w : World) (h : TblAt w p ent) (hl : ∀ e ∈ ent, e.2.1.length * 8 ≤ 140737488355328) (hn : ent.length ≤ 100) :
    Calls Tryd.prog 13 #[p] w fun e w' => ∃ v, e = .returned v ∧ kF.R 28 w' w.heap.size (fun _ => True) v (ent.map fnOf) ∧ Below w.heap.size w w' := by
  have HL := Lk.mk (len_any p ent w h.or)
  obtain ⟨g, A, c, rfl, hc, hlc, hC⟩ := h
  have HC := Lk.mk hC
  have HLE := Lk.mk hl
  have HG := Lk.mk hc
  clear hC hl hc
  go_enter Tryd.func13, Tryd.ntmps13
  go_wp2_with (go_at_call 52; (with_reducible refine HL.out.mono ?_); rintro e w' ⟨rfl, hw⟩; obtain rfl := hw.symm; clear hw)
  go_loopg [3, 7] ent.length (fun gg v3 v7 wr => ∃ kk : Nat, kk ≤ ent.length ∧ ent.length - kk ≤ gg ∧ v7 = .int .i64 kk ∧ Lk (kF.R 28 wr w.heap.size (fun _ => True) v3 ((ent.take kk).map fnOf)) ∧ Lk (Below w.heap.size w wr))
  case atStart => exact ⟨0, by omega, by omega, rfl, ⟨Kd.R_nil _ _ _ _ _⟩, ⟨Below.refl _ _⟩⟩
  case round =>
    obtain ⟨kk, hk, hg, rfl, HE, HB⟩ := hrel
    by_cases hlt : kk < ent.length
    · obtain ⟨ad, A1, c1, A2, c2, rfl, hk0, hk1, hk2, hr1, hr2⟩ := kE_at HC.out kk hlt
      have hltz : (kk : Int) < (ent.length : Int) := by omega
      have HX := Lk.mk (take_nextE hlt)
      have HLK := Lk.mk (HLE.out (ent.getD kk dE) (getD_mem _ hlt))
      have hgl := World.block_lt_of_cell? w _ HG.out
      have hal := World.block_lt_of_cell? w _ hk0
      have HR1 := Lk.mk (hr1.below HB.out)
      generalize ent.getD kk dE = en at *
      have K0 := Lk.mk (show ∀ W, Below w.heap.size w W → W.cell? ⟨g, 0, none⟩ = some (.slice (some ad) ent.length c) ∧ W.cell? (ad.add (kk * 3)) = some (.int .i64 en.1) ∧ W.cell? ⟨(ad.add (kk * 3)).block, (ad.add (kk * 3)).off + 1, none⟩ = some (.slice A1 en.2.1.length c1) from fun W h => ⟨pw_cell_below h HG.out, pw_cell_below h hk0, pw_cell_below h hk1⟩)
      have HV := Lk.mk (Kd.R_bound HE.out).1
      have HD := Lk.mk (below_drew (Below.refl wr.heap.size wr))
      have HCl := Lk.mk (clone64 A1 c1 en.2.1 wr.drew (HR1.out.below HD.out) HLK.out)
      have HOK := Lk.mk (show ∀ k, wr.heap.size ≤ k → True ∧ some k ≠ u3.ownBlock from fun k hk => ⟨trivial, fun e => by have := (HV.out k e.symm).2.2.1; omega⟩)
      have HBW := Lk.mk (show ∀ W, Below wr.drew.heap.size wr.drew W → Below w.heap.size w W from fun W h => below_then HB.out HB.out.size (below_then HD.out HD.out.size h))
      have HLN := Lk.mk (show (((ent.take kk).map fnOf).length + 1) * 32 ≤ 140737488355328 from by rw [List.length_map, List.length_take]; omega)
      have HS := HB.out.size
      clear hr1 hr2 hk0 hk1 hk2
      go_wp2
      have hq0 := K0.out _ (HBW.out _ (Below.refl _ _))
      go_region_held3 (fun W => W.cell? ⟨g, 0, none⟩ = some (.slice (some ad) ent.length c) ∧ W.cell? (ad.add (kk * 3)) = some (.int .i64 en.1) ∧ W.cell? ⟨(ad.add (kk * 3)).block, (ad.add (kk * 3)).off + 1, none⟩ = some (.slice A1 en.2.1.length c1)) (first | exact K0.out _ (HBW.out _ hb3) | exact K0.out _ (HBW.out _ (below_alloc hb3 _)) | exact hq0 | exact K4.out) (first
        | (go_at_call 53; (with_reducible refine HCl.out.mono ?_); rintro e w3 ⟨v3, rfl, ho3, hb3⟩; obtain ⟨A3, c3, rfl, hr3⟩ := own_reads ho3)
        | (have HP := Lk.mk (fn_M (b := w.heap.size) (m := wr.heap.size) (s := en.1) ho3 HS (Nat.le_refl _))
           have HR4 := Lk.mk (Kd.R_below (Kd.R_below HE.out HD.out) hb3)
           refine Kd.R_append_step (w0 := w) kF w.heap.size (by rfl) _ _ 22 28 _ 32 (by rfl) Tryd.underlying22 infoF rfl (by decide) (by decide) u3 _ (en.1, en.2.1) _ (fun _ => True) (fun k => wr.heap.size ≤ k) (by rfl) (by rfl) HP.out HOK.out (fun _ _ => trivial) HR4.out (HBW.out _ hb3) (HBW.out _ hb3).size HLN.out ?_
           intro v4 w4 hE4 hb4 hg4 hat4
           have K3 := K0.out _ (HBW.out _ hb3)
           have K4 := Lk.mk (show w4.cell? ⟨g, 0, none⟩ = some (.slice (some ad) ent.length c) ∧ w4.cell? (ad.add (kk * 3)) = some (.int .i64 en.1) ∧ w4.cell? ⟨(ad.add (kk * 3)).block, (ad.add (kk * 3)).off + 1, none⟩ = some (.slice A1 en.2.1.length c1) from K0.out _ hb4)))
      go_wp2
      have HE4 := Lk.mk hE4
      have HB4 := Lk.mk hb4
      clear hE4 hb4 hg4 hat4 K3
      go_roundg (ent.length - (kk + 1))
      case measure => omega
      case rel => exact ⟨kk + 1, by omega, by omega, by go_num, ⟨by rw [HX.out]; exact HE4.out⟩, HB4⟩
    · have hltz : ¬ (kk : Int) < (ent.length : Int) := by omega
      obtain rfl : kk = ent.length := by omega
      rw [List.take_length] at HE
      go_wp2
      go_ret
      exact ⟨_, rfl, HE.out, HB.out⟩
end Go.Proofs.YtcepafllgjnngaaDoor
