/-
  The walk of slots.All; conditions: what is handed in reads as told.
-/
import Derived.Test.YtcepafllgjnngaaDoorK4
import Derived.Test.YtcepafllgjnngaaDoorSb
import Derived.Test.YtcepafllgjnngaaDoorPa
namespace Go.Proofs.YtcepafllgjnngaaDoor
open Go.RowKit Go.Proofs.YtcepafllgjnngaaDoorW.PrintWords

def kRw : Kd (List Sl.Vl) := Kd.slice 56 kVl
theorem infoVl9 : (Tryd.prog.info? 56).map (fun i => (i.zero, i.size, i.bytes)) = some (some (.agg #[.int .u8 0, .int .u64 0, .int .i64 0, .int .i64 0]), 4, 32) := by kernel_rfl
theorem infoRw9 : (Tryd.prog.info? 111).map (fun i => (i.zero, i.size, i.bytes)) = some (some (.slice none 0 0), 1, 24) := by kernel_rfl
/-- up to i of what slots of a frame have -/
def rowTo (gv : Int → Int → Sl.Vl × Int) (d : Nat) (i : Nat) : List Sl.Vl := (List.range i).map fun (j : Nat) => (gv (d : Int) (j : Int)).1
theorem rowTo_len (gv : Int → Int → Sl.Vl × Int) (d i : Nat) : (rowTo gv d i).length = i := by simp [rowTo]
theorem rowTo_next (gv : Int → Int → Sl.Vl × Int) (d i : Nat) : rowTo gv d (i + 1) = rowTo gv d i ++ [(gv (d : Int) (i : Int)).1] := by unfold rowTo; rw [List.range_succ, List.map_append]; rfl
def rowsTo (sz : Int → Int) (gv : Int → Int → Sl.Vl × Int) (F : List Sl.Fr) (d : Nat) : List (List Sl.Vl) := (List.range d).map fun (j : Nat) => rowTo gv j (Sl.sizeS sz (F.getD j Sl.dFr)).toNat
theorem rowsTo_len (sz : Int → Int) (gv : Int → Int → Sl.Vl × Int) (F : List Sl.Fr) (d : Nat) : (rowsTo sz gv F d).length = d := by simp [rowsTo]
theorem rowsTo_next (sz : Int → Int) (gv : Int → Int → Sl.Vl × Int) (F : List Sl.Fr) (d : Nat) : rowsTo sz gv F (d + 1) = rowsTo sz gv F d ++ [rowTo gv d (Sl.sizeS sz (F.getD d Sl.dFr)).toNat] := by unfold rowsTo; rw [List.range_succ, List.map_append]; rfl
/-- what All answers -/
def AllL (sz : Int → Int) (gv : Int → Int → Sl.Vl × Int) (F : List Sl.Fr) (w : World) (e : Ending) (w' : World) : Prop :=
  Below w.heap.size w w' ∧ (((∀ d i : Nat, d < F.length → (i : Int) < Sl.sizeS sz (F.getD d Sl.dFr) → (gv d i).2 = 0) ∧ ∃ v, e = .returned (.tuple #[v, .int .i64 0]) ∧ kRw.R 111 w' w.heap.size (fun _ => True) v (rowsTo sz gv F F.length)) ∨
    ∃ n : Int, ¬ n = 0 ∧ e = .returned (.tuple #[.slice none 0 0, .int .i64 n]) ∧ ∃ d i : Nat, d < F.length ∧ (i : Int) < Sl.sizeS sz (F.getD d Sl.dFr) ∧ ¬ (gv d i).2 = 0)
set_option maxRecDepth 100000 in
set_option maxHeartbeats 8000000 in
theorem sall_any (g b : Nat) (ws : List Int) (p : Value) (ent : List (Int × (List Int × List Int))) (A : Option Addr) (c : Nat) (F : List Sl.Fr) (w : World) (h : ArB w g b ws) (ht : TblOr w p ent) (he : EntIn ent) (hw : ∀ e ∈ ent, Bm.Words e.2.1) (hr : kFr.C w A F.length F) (hI : FrIn F) (hl : F.length ≤ 1048576) :
    Calls Tryd.prog 32 #[.pointer (some ⟨g, 0, none⟩), p, .slice A F.length c] w fun e w' => AllL (tSize ent) (getV (tSize ent) (tPtr ent) ws F) F w e w' := by
  have hm := hr.2.1
  have HGT := Lk.mk (fun W (d i : Nat) (hb : Below w.heap.size w W) (hi : (i : Int) ≤ 9223372036854775807) => sget_any g b ws p ent A c F d i W (h.below hb) (ht.below hb) (Kd.C_below hr hb) hI he hw hi)
  have HSZ := Lk.mk (fun W x (hb : Below w.heap.size w W) => ssize_any p ent x W (ht.below hb) he)
  have HZR := Lk.mk (fun x : Sl.Fr => show 0 ≤ Sl.sizeS (tSize ent) x ∧ Sl.sizeS (tSize ent) x ≤ 1000 from by
    have := (tSize_in he x.2.1).2
    unfold Sl.sizeS
    split <;> omega)
  have HRC := Lk.mk hr
  clear h ht he hw hr hI
  generalize getV (tSize ent) (tPtr ent) ws F = gv at *
  generalize tSize ent = sz at *
  go_enter Tryd.func32, Tryd.ntmps32
  go_wp2
  go_loopg [8, 17] F.length (fun gg v8 v17 wr => ∃ d : Nat, d ≤ F.length ∧ F.length - d ≤ gg ∧ v17 = .int .i64 d ∧ Lk (kRw.R 111 wr w.heap.size (fun _ => True) v8 (rowsTo sz gv F d)) ∧ Lk (∀ d' i : Nat, d' < d → (i : Int) < Sl.sizeS sz (F.getD d' Sl.dFr) → (gv d' i).2 = 0) ∧ Lk (Below w.heap.size w wr))
  case atStart => exact ⟨0, by omega, by omega, rfl, ⟨Kd.R_nil kRw _ _ _ _⟩, ⟨fun d' i hd => absurd hd (by omega)⟩, ⟨Below.refl _ _⟩⟩
  case round =>
    obtain ⟨d, hd, hg, rfl, HO, HK, HB⟩ := hrel
    obtain ⟨wo, rfl⟩ : ∃ wo : World, wo = wr := ⟨_, rfl⟩
    by_cases hlt : d < F.length
    · have hltz : (d : Int) < (F.length : Int) := by omega
      obtain ⟨ad, rfl, c0, c1, c2⟩ := kFr_at (Kd.C_below HRC.out HB.out) d hlt
      have HRN := Lk.mk (rowsTo_next sz gv F d)
      have hzr := HZR.out (F.getD d Sl.dFr)
      have HBAD := Lk.mk (fun (i : Nat) (h1 : (i : Int) < Sl.sizeS sz (F.getD d Sl.dFr)) (h2 : ¬ (gv d i).2 = 0) => (⟨d, i, hlt, h1, h2⟩ : ∃ d i : Nat, d < F.length ∧ (i : Int) < Sl.sizeS sz (F.getD d Sl.dFr) ∧ ¬ (gv d i).2 = 0))
      have HKN := Lk.mk (fun (h : ∀ i : Nat, (i : Int) < Sl.sizeS sz (F.getD d Sl.dFr) → (gv d i).2 = 0) => (fun d' i hd' hi => by
        by_cases e : d' = d
        · subst e; exact h i hi
        · exact HK.out d' i (by omega) hi : ∀ d' i : Nat, d' < d + 1 → (i : Int) < Sl.sizeS sz (F.getD d' Sl.dFr) → (gv d' i).2 = 0))
      have HSZx := Lk.mk (fun W hb => HSZ.out W (F.getD d Sl.dFr) hb)
      generalize Sl.sizeS sz (F.getD d Sl.dFr) = z at *
      obtain ⟨N, rfl⟩ : ∃ N : Nat, z = (N : Int) := ⟨z.toNat, by omega⟩
      rw [Int.toNat_natCast] at HRN
      generalize F.getD d Sl.dFr = x at *
      obtain ⟨x0, x1, x2⟩ := x
      dsimp only at *
      have HBa := Lk.mk (below_alloc HB.out (.cells #[.int .i64 x0, .int .i64 x1, .int .i64 x2] 79))
      have HOa := Lk.mk (Kd.R_alloc HO.out (.cells #[.int .i64 x0, .int .i64 x1, .int .i64 x2] 79))
      go_wp2_with (first
        | (go_at_call 81; (with_reducible refine (HSZx.out _ HBa.out).mono ?_); rintro e w2 ⟨rfl, hb⟩; have HB2 := Lk.mk (below_then HBa.out HBa.out.size hb); have HO2 := Lk.mk (Kd.R_below HOa.out hb); clear hb))
      go_loopg [11, 25] N (fun gg v11 v25 W => ∃ i : Nat, i ≤ N ∧ N - i ≤ gg ∧ v25 = .int .i64 i ∧ Lk (kVl.R 56 W w2.heap.size (fun k => w2.heap.size ≤ k) v11 (rowTo gv d i)) ∧ Lk (∀ j : Nat, j < i → (gv d j).2 = 0) ∧ Lk (Below w2.heap.size w2 W))
      case atStart => exact ⟨0, by omega, by omega, rfl, ⟨Kd.R_nil kVl _ _ _ _⟩, ⟨fun j hj => absurd hj (by omega)⟩, ⟨Below.refl _ _⟩⟩
      case round =>
        obtain ⟨i, hi, hg3, rfl, HR, HE, HB3⟩ := hrel
        obtain ⟨w3, rfl⟩ : ∃ w3 : World, w3 = wr := ⟨_, rfl⟩
        by_cases hil : i < N
        · have hiz : (i : Int) < (N : Int) := by omega
          have HGx := Lk.mk (HGT.out w3 d i (below_then HB2.out HB2.out.size HB3.out) (by omega))
          have HRT := Lk.mk (rowTo_next gv d i)
          have HEN := Lk.mk (fun (h : (gv d i).2 = 0) => (fun j hj => by
            by_cases e : j = i
            · subst e; exact h
            · exact HE.out j (by omega) : ∀ j : Nat, j < i + 1 → (gv d j).2 = 0))
          have HBD := Lk.mk (HBAD.out i hiz)
          generalize gv d i = q at *
          obtain ⟨⟨a0, a1, a2, a3⟩, n⟩ := q
          unfold GetL at HGx
          dsimp only at *
          by_cases hn : n = 0
          · have HE2 := Lk.mk (HEN.out hn)
            subst hn
            clear HEN HBD
            go_wp2_with (first
              | (go_at_call 64; go_loud ((with_reducible refine (HGx.out).mono ?_); rintro e w4 ⟨rfl, hb⟩; have HB4 := Lk.mk (below_alloc (below_then HB3.out HB3.out.size hb) (.cells #[.int .u8 a0, .int .u64 a1, .int .i64 a2, .int .i64 a3] 56)); have HR4 := Lk.mk (Kd.R_alloc (Kd.R_below HR.out hb) (.cells #[.int .u8 a0, .int .u64 a1, .int .i64 a2, .int .i64 a3] 56)); obtain ⟨t0, t1, t2, t3⟩ := cells4 (blk_new w4 (.cells #[.int .u8 a0, .int .u64 a1, .int .i64 a2, .int .i64 a3] 56)); have HS4 := Lk.mk HB4.out.size; clear hb))
              | (at_builtin
                 refine Kd.R_append (w0 := w2) kVl w2.heap.size rfl _ _ 111 56 _ 32 rfl Tryd.underlying111 infoVl9 rfl (show 0 < (4 : Nat) from by decide) (show 0 < (32 : Nat) from by decide) u11 (rowTo gv d i) (a0, a1, a2, a3) [.int .u8 a0, .int .u64 a1, .int .i64 a2, .int .i64 a3] (fun k => w2.heap.size ≤ k) (fun _ => False) rfl ?q3 ?q1 (fun _ h => h.elim) (fun k hk => Nat.le_trans HS4.out hk) HR4.out HB4.out HS4.out ?q2 ?_
                 case q1 => exact ⟨[_], [_, _, _], rfl, rfl, ⟨[_], [_, _], rfl, rfl, ⟨[_], [_], rfl, rfl, rfl⟩⟩⟩
                 case q2 => rw [rowTo_len]; omega
                 case q3 => simp [go_sem]
                 intro v5 w5 hR5 hb5 hg5 _
                 have HR5 := Lk.mk hR5
                 have HB5 := Lk.mk hb5
                 clear hR5 hb5 hg5))
            go_roundg (N - (i + 1))
            case measure => omega
            case rel => exact ⟨i + 1, by omega, by omega, by go_num, ⟨by rw [HRT.out]; exact HR5.out⟩, HE2, HB5⟩
          · have HBX := Lk.mk (HBD.out hn)
            have HN := Lk.mk hn
            have hnb : (n != 0) = true := bne_iff_ne.2 hn
            clear HEN HBD hn
            go_wp2_with (first
              | (go_at_call 64; (with_reducible refine (HGx.out).mono ?_); rintro e w4 ⟨rfl, hb⟩; have HB4 := Lk.mk (below_alloc (below_then HB3.out HB3.out.size hb) (.cells #[.int .u8 a0, .int .u64 a1, .int .i64 a2, .int .i64 a3] 56)); clear hb))
            go_ret2
            exact ⟨below_then HB2.out HB2.out.size HB4.out, .inr ⟨n, HN.out, rfl, HBX.out⟩⟩
        · obtain rfl : i = N := by omega
          have hiz : ¬ (i : Int) < (i : Int) := by omega
          obtain ⟨A1, c1, rfl, _, _⟩ := Kd.R_reads HR.out
          have HKX := Lk.mk (HKN.out (fun j hj => HE.out j (by omega)))
          have HV8 := Lk.mk (Kd.R_bound HO2.out).1
          have HO3 := Lk.mk (Kd.R_below HO2.out HB3.out)
          have HBw := Lk.mk (below_then HB2.out HB2.out.size HB3.out)
          have HM := Lk.mk (show kRw.M w3 w.heap.size (fun k => w2.heap.size ≤ k) (rowTo gv d i) [.slice A1 (rowTo gv d i).length c1] from ⟨_, rfl, Kd.R_lower HR.out HB2.out.size⟩)
          have HOK := Lk.mk (show ∀ k, w2.heap.size ≤ k → True ∧ some k ≠ u8.ownBlock from fun k hk => ⟨trivial, fun e => by have := (HV8.out k e.symm).2.2.1; omega⟩)
          go_wp2_with (first
            | (at_builtin
               refine Kd.R_append (w0 := w) kRw w.heap.size rfl _ _ 68 111 _ 24 rfl Tryd.underlying68 infoRw9 rfl (show 0 < (1 : Nat) from by decide) (show 0 < (24 : Nat) from by decide) u8 (rowsTo sz gv F d) (rowTo gv d i) [.slice A1 (rowTo gv d i).length c1] (fun _ => True) (fun k => w2.heap.size ≤ k) rfl ?q3 HM.out HOK.out (fun _ _ => trivial) HO3.out HBw.out HBw.out.size ?q2 ?_
               case q2 => rw [rowsTo_len]; omega
               case q3 => simp [go_sem]
               intro v5 w5 hR5 hb5 hg5 _
               have HR5 := Lk.mk hR5
               have HB5 := Lk.mk hb5
               clear hR5 hb5 hg5))
          go_roundg (F.length - (d + 1))
          case measure => omega
          case rel => exact ⟨d + 1, by omega, by omega, by go_num, ⟨by rw [HRN.out]; exact HR5.out⟩, HKX, HB5⟩
    · obtain rfl : d = F.length := by omega
      have hltz : ¬ (F.length : Int) < (F.length : Int) := by omega
      go_wp2
      go_ret2
      exact ⟨HB.out, .inl ⟨HK.out, _, rfl, HO.out⟩⟩
end Go.Proofs.YtcepafllgjnngaaDoor
