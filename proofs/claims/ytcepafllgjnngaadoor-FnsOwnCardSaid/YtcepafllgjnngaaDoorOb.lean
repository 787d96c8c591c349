/-
  The walk of the law FnsOwn; conditions: what is handed in reads as told, the table of deBruijn stands.
-/
import Derived.Test.YtcepafllgjnngaaDoorOa
import Derived.Deep.RegionHeld3
namespace Go.Proofs.YtcepafllgjnngaaDoor
open Go.RowKit Go.Proofs.YtcepafllgjnngaaDoorW.PrintWords

theorem own_take {l : List (Int × List Int)} {k : Nat} (h : k < l.length) : l.take (k + 1) = l.take k ++ [l.getD k dF] := by
  rw [List.take_add_one, List.getD_eq_getElem?_getD, List.getElem?_eq_getElem h]; rfl
set_option maxRecDepth 100000 in
set_option maxHeartbeats 2000000 in
theorem own_great (A : Option Addr) (c : Nat) (l : List (Int × List Int)) (mk : Int) (w : World) (hr : FnC w A l.length l) (hT : Tab w) (hg : greatL l = true) :
    Calls Tryd.prog 3 #[.slice A l.length c, .int .u64 mk] w fun e w' => e = .returned (.bool true) ∧ Below w.heap.size w w' := by
  have HG := Lk.mk (hg ▸ great_any A c l w hr)
  have HT := Lk.mk hT
  clear hr hT hg
  go_enter Tryd.func3, Tryd.ntmps3
  go_wp2_with (first
    | (go_at_call 10; (with_reducible refine (HG.out).mono ?_); rintro e w' ⟨rfl, hw⟩; obtain rfl := hw.symm; clear hw)
    | (go_at_call 11; (with_reducible refine (awake_any _ HT.out).mono ?_); rintro e w9 ⟨rfl, hb⟩))
  go_ret
  exact ⟨rfl, hb⟩
set_option maxRecDepth 100000 in
set_option maxHeartbeats 8000000 in
theorem own_rest (A : Option Addr) (c : Nat) (l : List (Int × List Int)) (mk : Int) (w : World) (hr : FnC w A l.length l) (hI : FnsIn l) (hT : Tab w) (hg : greatL l = false) :
    Calls Tryd.prog 3 #[.slice A l.length c, .int .u64 mk] w fun e w' => e = .returned (.bool true) ∧ Below w.heap.size w w' := by
  have hm := hr.2.1
  have hOk := hI.ok hg
  have HG := Lk.mk (hg ▸ great_any A c l w hr)
  have HR := Lk.mk hr
  have HI := Lk.mk hI
  have HOk := Lk.mk hOk
  have HLn := Lk.mk (show ∀ f ∈ l, f.2.length ≤ 40 from fun f hf => FnsIn.len hg hf)
  have HT := Lk.mk hT
  have HL120 := Lk.mk (show l.length ≤ 120 by
    unfold greatL at hg
    simp only [Bool.or_eq_false_iff, decide_eq_false_iff_not] at hg
    omega)
  clear hr hI hT hg hOk
  go_enter Tryd.func3, Tryd.ntmps3
  go_wp2_with (go_at_call 10; (with_reducible refine (HG.out).mono ?_); rintro e w' ⟨rfl, hw⟩; obtain rfl := hw.symm; clear hw)
  go_loopg [5, 6] l.length (fun gg v5 v6 wr => ∃ k : Nat, k ≤ l.length ∧ l.length - k ≤ gg ∧ v6 = .int .i64 k ∧ Lk (kF.R 28 wr w.heap.size (fun _ => True) v5 (l.take k)) ∧ Lk (Below w.heap.size w wr))
  case atStart => exact ⟨0, by omega, by omega, rfl, ⟨⟨fun _ _ => trivial, [], World.ownsRow_lit (base := w.heap.size) (e := 28) (size := 2) w #[] 0 (Nat.le_refl _) (by decide) (by rfl), Reps.none _ _⟩⟩, ⟨below_alloc (Below.refl _ _) _⟩⟩
  case round =>
    obtain ⟨k, hk, hg, rfl, HE, HB⟩ := hrel
    by_cases hlt : k < l.length
    · have hltz : (k : Int) < (l.length : Int) := by omega
      obtain ⟨ad, A1, c1, rfl, h0, h1, hc1, hr1⟩ := HR.out.at_ k hlt
      have HX := Lk.mk (own_take hlt)
      have HLK := Lk.mk (HLn.out (l.getD k dF) (getD_mem _ hlt))
      have HLT := Lk.mk (show ((l.take k).length + 1) * 32 ≤ 140737488355328 by have := HL120.out; rw [List.length_take]; omega)
      generalize l.getD k dF = f at *
      have HR1 := Lk.mk (hr1.below HB.out)
      have K0 := Lk.mk (show ∀ W, Below w.heap.size w W → W.cell? (ad.add (k * 2)) = some (.int .i64 f.1) ∧ W.cell? ⟨(ad.add (k * 2)).block, (ad.add (k * 2)).off + 1, none⟩ = some (.slice A1 f.2.length c1) from fun W h => ⟨pw_cell_below h h0, pw_cell_below h h1⟩)
      have HV := Lk.mk (Kd.R_bound HE.out).1
      have HOK := Lk.mk (show ∀ k, wr.heap.size ≤ k → True ∧ some k ≠ u5.ownBlock from fun k hk => ⟨trivial, fun e => by have := (HV.out k e.symm).2.2.1; omega⟩)
      have HA := Lk.mk (below_alloc (below_drew (Below.refl wr.heap.size wr)) (.cells #[] 23))
      have HS := HB.out.size
      have HBW := Lk.mk (fun W (h : Below wr.heap.size wr W) => below_then HB.out HB.out.size h)
      obtain ⟨q0, q1⟩ := K0.out _ (below_drew HB.out)
      clear h0 h1 hr1 hc1
      obtain ⟨f1, f2⟩ := f
      dsimp only at *
      go_wp2
      go_region_held3 (fun W => W.cell? (ad.add (k * 2)) = some (.int .i64 f1) ∧ W.cell? ⟨(ad.add (k * 2)).block, (ad.add (k * 2)).off + 1, none⟩ = some (.slice A1 f2.length c1)) (first | exact ⟨q0, q1⟩ | exact K0.out _ (HBW.out _ HA.out) | exact K0.out _ (HBW.out _ hb3) | exact K0.out _ (HBW.out _ (below_alloc hb3 _)) | exact K4.out) (first
        | (refine step_append_ints (w0 := wr) wr.heap.size (by rfl) _ _ 26 23 .u64 8 (by rfl) Tryd.underlying26 info23 (by decide) (.slice (some ⟨wr.heap.size, 0, none⟩) 0 0) [] f2 A1 f2.length c1 (by rfl) (by rfl) (own_lit wr.drew wr.heap.size 23 .u64 [] (Nat.le_refl _) (by simp)) (HR1.out.below HA.out) HA.out HA.out.size (by have := HLK.out; simp; omega) ?_
           intro v3 w3 ho3 hb3 _ _
           rw [List.nil_append] at ho3
           obtain ⟨A3, c3, rfl, hr3⟩ := own_reads ho3)
        | (have HP := Lk.mk (fn_M (b := w.heap.size) (m := wr.heap.size) (s := f1) ho3 HS (Nat.le_refl _))
           have HR4 := Lk.mk (Kd.R_below HE.out hb3)
           refine Kd.R_append_step (w0 := w) kF w.heap.size (by rfl) _ _ 22 28 _ 32 (by rfl) Tryd.underlying22 infoF rfl (by decide) (by decide) u5 _ (f1, f2) _ (fun _ => True) (fun k => wr.heap.size ≤ k) (by rfl) (by rfl) HP.out HOK.out (fun _ _ => trivial) HR4.out (below_then HB.out HB.out.size hb3) (below_then HB.out HB.out.size hb3).size HLT.out ?_
           intro v4 w4 hE4 hb4 hg4 hat4
           have K4 := Lk.mk (show w4.cell? (ad.add (k * 2)) = some (.int .i64 f1) ∧ w4.cell? ⟨(ad.add (k * 2)).block, (ad.add (k * 2)).off + 1, none⟩ = some (.slice A1 f2.length c1) from K0.out _ hb4)))
      go_wp2
      have HE4 := Lk.mk hE4
      have HB4 := Lk.mk hb4
      clear hE4 hb4 hg4 hat4
      go_roundg (l.length - (k + 1))
      case measure => omega
      case rel => exact ⟨k + 1, by omega, by omega, by go_num, ⟨by rw [HX.out]; exact HE4.out⟩, HB4⟩
    · obtain rfl : k = l.length := by omega
      have hltz : ¬ (l.length : Int) < (l.length : Int) := by omega
      rw [List.take_length] at HE
      cases hn : newOk l with
      | false =>
        obtain ⟨A5, c5, rfl, _, hC5⟩ := Kd.R_reads HE.out
        have HN := Lk.mk (new_bad A5 c5 l wr (kF_fnC hC5) HOk.out (HT.out.below HB.out) hn)
        clear hC5 hn
        go_wp2_with (first
          | (go_at_call 12; (with_reducible refine (HN.out).mono ?_); rintro e w1 ⟨rfl, hb⟩; have HB1 := Lk.mk (below_then HB.out HB.out.size hb); clear hb)
          | (go_at_call 11; (with_reducible refine (awake_any _ (HT.out.below HB1.out)).mono ?_); rintro e w9 ⟨rfl, hb⟩; have HB9 := Lk.mk (below_then HB1.out HB1.out.size hb); clear hb))
        go_ret
        exact ⟨rfl, HB9.out⟩
      | true =>
        obtain ⟨wq, rfl⟩ : ∃ wq : World, wq = wr := ⟨_, rfl⟩
        have hl1 : 1 ≤ l.length ∧ l.length ≤ 100 := by
          unfold newOk at hn
          rw [Bool.and_eq_true, Bool.and_eq_true, decide_eq_true_eq, decide_eq_true_eq] at hn
          exact hn.1
        obtain ⟨go, c5, rfl, hSh⟩ := sh_row HE.out (by omega)
        have HSH := Lk.mk hSh
        have HN := Lk.mk (new_goodS (some ⟨go, 0, none⟩) c5 l wq (kF_fnC (Kd.R_reads' HE.out).2.2) HOk.out (HT.out.below HB.out) hn)
        have HTS := Lk.mk (table_same hn HI.out)
        have hn100 : (l.map entryOf).length ≤ 100 := by rw [List.length_map]; omega
        have HFl := Lk.mk (show ∀ e ∈ l.map entryOf, e.2.1.length * 8 ≤ 140737488355328 from fun e he => by
          obtain ⟨f, _, rfl⟩ := List.mem_map.1 he
          have := Bm.ofL_length (Bm.bitsL f.2 f.1)
          show (Bm.ofL (Bm.bitsL f.2 f.1)).length * 8 ≤ _
          omega)
        have HPl := Lk.mk (show ∀ e ∈ l.map entryOf, e.2.2.length * 8 ≤ 140737488355328 from fun e he => by
          obtain ⟨f, hf, rfl⟩ := List.mem_map.1 he
          have := HLn.out f hf
          have h2 := Bm.bitsL_length f.2 f.1
          show (Bm.bitsL f.2 f.1).length * 8 ≤ _
          omega)
        have HFn := Lk.mk (show ∀ W p, TblAt W p (l.map entryOf) → Calls Tryd.prog 13 #[p] W fun e w' => ∃ v, e = .returned v ∧ kF.R 28 w' W.heap.size (fun _ => True) v ((l.map entryOf).map fnOf) ∧ Below W.heap.size W w' from fun W p h => fns_any p _ W h HFl.out hn100)
        have HSm := Lk.mk (show ∀ W A5 c5, FnC W A5 l.length ((l.map entryOf).map fnOf) → Below w.heap.size w W → Calls Tryd.prog 17 #[.slice A5 l.length c5, .slice A l.length c] W fun e w' => e = .returned (.bool true) ∧ Below W.heap.size W w' from fun W A5 c5 h5 hb => by
          have q := same13_true A5 c5 _ A c l W (by rw [HTS.out.1]; exact h5) (HR.out.below hb) HTS.out.1.symm HTS.out.2
          rwa [HTS.out.1] at q)
        have HPT := Lk.mk (fun W p (i : Int) (h : TblAt W p (l.map entryOf)) => ptrs_any p (l.map entryOf) i W h.or HPl.out)
        have HLT := Lk.mk (fun i => tPtrs_map l i)
        have hz0 : ¬ (l.length : Int) = 0 := by omega
        clear hn hn100 hSh HFl HPl
        go_wp2_with (first
          | (go_at_call 12; (with_reducible refine (HN.out).mono ?_); rintro e w2 ⟨p, rfl, htb, hb⟩; have HTB := Lk.mk htb; have HB2 := Lk.mk hb; clear hb htb)
          | (go_at_call 13; (with_reducible refine (HFn.out _ _ (HTB.out _ (fun _ _ _ => rfl))).mono ?_); rintro e w3 ⟨v9, rfl, hR9, hb⟩; obtain ⟨gt, c9, hv9, hS9⟩ := sh_row hR9 (by rw [HTS.out.1]; omega); rw [HTS.out.1] at hv9 hS9; obtain rfl := hv9; have HINV := Lk.mk (show OwnInv w wq w2 go gt l.length w3 from ⟨below_then HB.out HB.out.size (below_then HB2.out HB2.out.size hb), hb.size, fun k _ h2 => hb.block k h2, (HSH.out.below HB2.out).below hb, hS9.imp (fun _ h => h.1)⟩); clear hb hR9 hS9))
        have h12 : wq.heap.size ≤ w2.heap.size := HB2.out.size
        have h01 : w.heap.size ≤ wq.heap.size := HB.out.size
        clear HE HSH HN HB2
        go_loopg [10] l.length (fun g1 v10 Wo => ∃ i : Nat, i ≤ l.length ∧ l.length - i ≤ g1 ∧ v10 = .int .i64 i ∧ Lk (OwnInv w wq w2 go gt l.length Wo))
        case atStart => exact ⟨0, by omega, by omega, rfl, HINV⟩
        case round =>
          obtain ⟨i, hi, hg1, rfl, HV⟩ := hrel
          obtain ⟨Wo, rfl⟩ : ∃ Wo : World, Wo = wr := ⟨_, rfl⟩
          by_cases hil : i < l.length
          · have hilz : (i : Int) < (l.length : Int) := by omega
            obtain ⟨s1, A1, l1, c1, o0, o1, o2, o3⟩ := HV.out.own.at_ i hil
            have HC1 := Lk.mk o1
            have HW1 := Lk.mk o3
            clear o0 o3 o1
            go_wp2
            go_loopg [11] l1 (fun g3 v11 W3 => ∃ k : Nat, k ≤ l1 ∧ l1 - k ≤ g3 ∧ v11 = .int .i64 k ∧ Lk (OwnInv w wq w2 go gt l.length W3) ∧ Lk (W3.cell? ⟨go, i * 2 + 1, none⟩ = some (.slice A1 l1 c1)) ∧ Lk (Wd W3 (fun k => w.heap.size ≤ k ∧ k < wq.heap.size) A1 l1))
            case atStart => exact ⟨0, by omega, by omega, rfl, HV, HC1, HW1⟩
            case round =>
              obtain ⟨k, hk, hg3, rfl, HV3, HC3, HW3⟩ := hrel
              have hc3 := HC3.out
              clear HV HC1 HW1
              by_cases hkl : k < l1
              · have hklz : (k : Int) < (l1 : Int) := by omega
                obtain ⟨q, cells, rfl, hp, hh, hs⟩ := HW3.out (by omega)
                have hcq := blk_cell hh k
                rw [Array.getElem?_eq_getElem (show k < cells.size by omega)] at hcq
                have hfq := blk_frozen hh k
                have HV4 := Lk.mk (HV3.out.set h01 h12 (.inl hp) (HV3.out.own.ne hh (by decide)) (HV3.out.got.ne hh (by decide)) k (.int .u64 mk))
                have HC4 := Lk.mk ((cell_far (W := wr) (a := ⟨go, i * 2 + 1, none⟩) (p := ⟨q, k, none⟩) (HV3.out.own.ne hh (by decide)) (.int .u64 mk)).trans HC3.out)
                have HW4 := Lk.mk (HW3.out.set q k (.int .u64 mk))
                generalize cells[k] = x at *
                clear hs hh HV3 HC3 HW3 hp
                go_wp2
                go_roundg (l1 - (k + 1))
                case measure => omega
                case rel => exact ⟨k + 1, by omega, by omega, by go_num, HV4, HC4, HW4⟩
              · have hklz : ¬ (k : Int) < (l1 : Int) := by omega
                obtain ⟨W3, rfl⟩ : ∃ W3 : World, W3 = wr := ⟨_, rfl⟩
                clear HC3 HW3
                go_wp2
                obtain ⟨s2, A2, l2, c2, p0, p1, p2, p3⟩ := HV3.out.got.at_ i hil
                have HC2 := Lk.mk p1
                have HW2 := Lk.mk p3
                clear p0 p1 p3
                go_loopg [12] l2 (fun g4 v12 W4 => ∃ k : Nat, k ≤ l2 ∧ l2 - k ≤ g4 ∧ v12 = .int .i64 k ∧ Lk (OwnInv w wq w2 go gt l.length W4) ∧ Lk (W4.cell? ⟨gt, i * 2 + 1, none⟩ = some (.slice A2 l2 c2)) ∧ Lk (Wd W4 (fun k => w2.heap.size ≤ k) A2 l2))
                case atStart => exact ⟨0, by omega, by omega, rfl, HV3, HC2, HW2⟩
                case round =>
                  obtain ⟨k, hk, hg4, rfl, HV4, HC4, HW4⟩ := hrel
                  have hc4 := HC4.out
                  clear HV3 HC2 HW2
                  by_cases hkl : k < l2
                  · have hklz : (k : Int) < (l2 : Int) := by omega
                    obtain ⟨q, cells, rfl, hp, hh, hs⟩ := HW4.out (by omega)
                    have hcq := blk_cell hh k
                    rw [Array.getElem?_eq_getElem (show k < cells.size by omega)] at hcq
                    have hfq := blk_frozen hh k
                    have HV5 := Lk.mk (HV4.out.set h01 h12 (.inr hp) (HV4.out.own.ne hh (by decide)) (HV4.out.got.ne hh (by decide)) k (.int .u64 mk))
                    have HC5 := Lk.mk ((cell_far (W := wr) (a := ⟨gt, i * 2 + 1, none⟩) (p := ⟨q, k, none⟩) (HV4.out.got.ne hh (by decide)) (.int .u64 mk)).trans HC4.out)
                    have HW5 := Lk.mk (HW4.out.set q k (.int .u64 mk))
                    generalize cells[k] = x at *
                    clear hs hh HV4 HC4 HW4 hp
                    go_wp2
                    go_roundg (l2 - (k + 1))
                    case measure => omega
                    case rel => exact ⟨k + 1, by omega, by omega, by go_num, HV5, HC5, HW5⟩
                  · have hklz : ¬ (k : Int) < (l2 : Int) := by omega
                    obtain ⟨W4, rfl⟩ : ∃ W4 : World, W4 = wr := ⟨_, rfl⟩
                    have HP4 := Lk.mk (HPT.out W4 p (i : Int) (HTB.out _ HV4.out.tbl))
                    have HLi := Lk.mk (HLT.out (i : Int))
                    clear HC4 HW4
                    rw [HLi.out] at HP4
                    have hlb := Lk.mk (show lBits l (i : Int) = Bm.bitsL (l.getD i dF).2 (l.getD i dF).1 by unfold lBits; rw [if_pos ⟨by omega, hilz⟩, Int.toNat_natCast])
                    rw [hlb.out] at HP4
                    have hbl := Bm.bitsL_length (l.getD i dF).2 (l.getD i dF).1
                    have hb40 := HLn.out (l.getD i dF) (getD_mem _ hil)
                    obtain ⟨bs, hbs⟩ : ∃ bs, bs = Bm.bitsL (l.getD i dF).2 (l.getD i dF).1 := ⟨_, rfl⟩
                    rw [← hbs] at HP4 hbl hlb
                    have hbn : bs.length ≤ 2560 := by omega
                    have HBS := Lk.mk hbs
                    clear hbs hbl hb40
                    go_wp2_with (go_at_call 14; (with_reducible refine (HP4.out).mono ?_); rintro e w5 ⟨v13, rfl, ho, hb⟩; have HV5 := Lk.mk (HV4.out.then_ hb); have HSZ := Lk.mk (Nat.le_trans HV4.out.size (Nat.le_refl W4.heap.size)); obtain ⟨A13, c13, hv13⟩ := own_slice ho; obtain rfl := hv13; have HO5 := Lk.mk ho; clear hb ho HV4)
                    go_loopg [14] bs.length (fun g5 v14 W5 => ∃ (k : Nat) (xs : List Int), k ≤ bs.length ∧ bs.length - k ≤ g5 ∧ v14 = .int .i64 k ∧ Lk (xs.length = bs.length) ∧ Lk (OwnInv w wq w2 go gt l.length W5) ∧ Lk (W5.ownsRow W4.heap.size 3 1 (.slice A13 bs.length c13) xs.length (nums .i64 xs)))
                    case atStart => exact ⟨0, bs, by omega, by omega, rfl, ⟨rfl⟩, HV5, HO5⟩
                    case round =>
                      obtain ⟨k, xs, hk, hg5, rfl, HXL, HV6, HO6⟩ := hrel
                      clear HV5 HO5
                      by_cases hkl : k < bs.length
                      · have hklz : (k : Int) < (bs.length : Int) := by omega
                        have hxl := HXL.out
                        rw [← hxl] at HO6
                        obtain ⟨q, cp, hq, _, _⟩ := HO6.out.form (by omega)
                        injection hq with hq1 hq2 hq3
                        subst hq1
                        subst hq3
                        obtain ⟨hce, hf⟩ := own_at HO6.out (k : Int) (by omega) (by omega)
                        rw [Int.toNat_natCast] at hf
                        rw [Int.toNat_natCast, rd_n] at hce
                        obtain ⟨cells, hh⟩ := own_typed HO6.out q (by simp [Value.ownBlock])
                        have hqb := own_base HO6.out q (by simp [Value.ownBlock])
                        have HV7 := Lk.mk (HV6.out.set h01 h12 (.inr (Nat.le_trans HSZ.out hqb)) (HV6.out.own.ne hh (by decide)) (HV6.out.got.ne hh (by decide)) k (.int .i64 0))
                        have hs := (own_store HO6.out (k : Int) 0).1
                        rw [Int.toNat_natCast] at hs
                        have HS := Lk.mk hs
                        generalize xs.getD k 0 = old at *
                        clear hs HO6 HV6 hh
                        go_wp2
                        go_roundg (bs.length - (k + 1))
                        case measure => omega
                        case rel => exact ⟨k + 1, xs.set k 0, by omega, by omega, by go_num, ⟨by rw [List.length_set]; exact hxl⟩, HV7, ⟨by rw [List.length_set, ← hxl]; exact HS.out⟩⟩
                      · have hklz : ¬ (k : Int) < (bs.length : Int) := by omega
                        obtain ⟨W5, rfl⟩ : ∃ W5 : World, W5 = wr := ⟨_, rfl⟩
                        clear HO6 HXL
                        obtain ⟨s6, A6, l6, c6, e0, _, _, _⟩ := HV6.out.own.at_ i hil
                        have hz6 := HV6.out.own.frozen (i * 2)
                        have HV7 := Lk.mk (HV6.out.setSize h12 i 0)
                        clear HV6
                        have HV8 := Lk.mk (HV7.out.then_ (below_drew (Below.refl _ _)))
                        obtain ⟨ad, A7, c7, rfl, f0, f1, hc7, hr7⟩ := HR.out.at_ i hil
                        have K0 := Lk.mk (show ∀ W, Below w.heap.size w W → W.cell? (ad.add (i * 2)) = some (.int .i64 (l.getD i dF).1) ∧ W.cell? ⟨(ad.add (i * 2)).block, (ad.add (i * 2)).off + 1, none⟩ = some (.slice A7 (l.getD i dF).2.length c7) from fun W h => ⟨pw_cell_below h f0, pw_cell_below h f1⟩)
                        have HP8 := Lk.mk (fun W (h : OwnInv w wq w2 go gt l.length W) => HPT.out W p (i : Int) (HTB.out _ h.tbl))
                        rw [HLi.out, hlb.out] at HP8
                        have HBT := Lk.mk (fun W (h : Below w.heap.size w W) => refBits_any A7 c7 (l.getD i dF).2 (l.getD i dF).1 W (hr7.below h) (HI.out _ (getD_mem _ hil)).1 (by have := HLn.out _ (getD_mem dF hil); omega))
                        rw [← HBS.out] at HBT
                        have HIN := Lk.mk (fun W A c B d (h1 : ReadsInt W .i64 A bs.length bs) (h2 : ReadsInt W .i64 B bs.length bs) => refInts_any A c bs B d bs W h1 h2)
                        simp only [decide_true] at HIN
                        clear hr7 f0 f1 hc7 HBS HLi hlb
                        generalize l.getD i dF = fi at *
                        obtain ⟨g1, g2⟩ := K0.out _ HV8.out.below
                        go_wp2
                        go_region_held3 (fun W => W.cell? (ad.add (i * 2)) = some (.int .i64 fi.1) ∧ W.cell? ⟨(ad.add (i * 2)).block, (ad.add (i * 2)).off + 1, none⟩ = some (.slice A7 fi.2.length c7)) (first | exact ⟨g1, g2⟩ | exact K0.out _ HV9.out.below | exact K0.out _ HV10.out.below | exact K0.out _ HV11.out.below) (first
                          | (go_at_call 14; (with_reducible refine (HP8.out _ HV8.out).mono ?_); rintro e w9 ⟨v9, rfl, ho, hb⟩; obtain ⟨A9, c9', rfl, hr9⟩ := own_reads ho; have HV9 := Lk.mk (HV8.out.then_ hb); have HR9 := Lk.mk hr9; clear ho hb hr9)
                          | (go_at_call 16; (with_reducible refine (HBT.out _ HV9.out.below).mono ?_); rintro e w10 ⟨v10, rfl, ho, hb⟩; obtain ⟨A10, c10, rfl, hr10⟩ := own_reads ho; have HV10 := Lk.mk (HV9.out.then_ hb); have HR10 := Lk.mk hr10; have HR9b := Lk.mk (HR9.out.below hb); clear ho hb hr10)
                          | (go_at_call 15; (with_reducible refine (HIN.out _ _ _ _ _ HR9b.out HR10.out).mono ?_); rintro e w11 ⟨rfl, hb⟩; have HV11 := Lk.mk (HV10.out.then_ hb); clear hb))
                        go_wp2
                        go_roundg (l.length - (i + 1))
                        case measure => omega
                        case rel => exact ⟨i + 1, by omega, by omega, by go_num, HV11⟩
          · have hilz : ¬ (i : Int) < (l.length : Int) := by omega
            have HF9 := Lk.mk (HFn.out _ p (HTB.out _ HV.out.tbl))
            go_wp2_with (first
              | (go_at_call 13; (with_reducible refine (HF9.out).mono ?_); rintro e w8 ⟨v8, rfl, hR8, hb⟩; obtain ⟨A8, c8, rfl, _, hC8⟩ := Kd.R_reads hR8; rw [HTS.out.1] at hC8 ⊢; have HC8 := Lk.mk (kF_fnC hC8); have HB8 := Lk.mk (below_then HV.out.below HV.out.below.size hb); clear hb hR8 hC8)
              | (go_at_call 17; (with_reducible refine (HSm.out _ _ _ HC8.out HB8.out).mono ?_); rintro e w9 ⟨rfl, hb⟩; have HB9 := Lk.mk (below_then HB8.out HB8.out.size hb); clear hb)
              | (go_at_call 11; (with_reducible refine (awake_any _ (HT.out.below HB9.out)).mono ?_); rintro e w10 ⟨rfl, hb⟩; have HBx := Lk.mk (below_then HB9.out HB9.out.size hb); clear hb))
            go_ret
            exact ⟨rfl, HBx.out⟩
theorem lawOfFnsOwn (A : Option Addr) (c : Nat) (l : List (Int × List Int)) (mk : Int) (w : World) (hr : FnC w A l.length l) (hI : FnsIn l) (_ : 0 ≤ mk ∧ mk ≤ 18446744073709551615) (hT : Tab w) :
    Calls Tryd.prog 3 #[.slice A l.length c, .int .u64 mk] w fun e w' => e = .returned (.bool true) ∧ Below w.heap.size w w' := by
  cases hg : greatL l with
  | true => exact own_great A c l mk w hr hT hg
  | false => exact own_rest A c l mk w hr hI hT hg
end Go.Proofs.YtcepafllgjnngaaDoor
