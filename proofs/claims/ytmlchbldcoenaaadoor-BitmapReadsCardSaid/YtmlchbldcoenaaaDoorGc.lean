/-
  The walks of the reference's Text and of the bitmaps' awake; conditions: what is handed in reads as told, the table of deBruijn stands.
-/
import Derived.Test.YtmlchbldcoenaaaDoorGa
import Derived.Test.YtmlchbldcoenaaaDoorGb
namespace Go.Proofs.YtmlchbldcoenaaaDoor
open Go.RowKit Go.Proofs.YtmlchbldcoenaaaDoorW.PrintWords

theorem str_snoc (xs : List Int) (x : Int) (b : UInt8) (h : UInt8.ofNat x.toNat = b) : strOfNums xs ++ ⟨#[b]⟩ = strOfNums (xs ++ [x]) := by
  apply ByteArray.ext
  rw [ByteArray.data_append]
  unfold strOfNums
  simp [h]
set_option maxRecDepth 100000 in
set_option maxHeartbeats 2000000 in
theorem refText_any (A : Option Addr) (c : Nat) (l : List Int) (n : Int) (w : World) (hr : ReadsInt w .u64 A l.length l) (hw : Bm.Words l) :
    Calls Tryd.prog 41 #[.slice A l.length c, .int .i64 n] w fun e w' => e = .returned (.string (strOfNums (Bm.digs l (textM n)))) ∧ Below w.heap.size w w' := by
  have HR := Lk.mk hr
  have HW := Lk.mk hw
  have HM := Lk.mk (show ((textM n : Nat) : Int) = max 0 (min n 4096) by unfold textM; omega)
  clear hr hw
  go_enter Tryd.func41, Tryd.ntmps41
  go_wp2
  go_loopg [5, 6] 4096 (fun gg v5 v6 wr => ∃ i : Nat, (i : Int) ≤ max 0 (min n 4096) ∧ 4096 - i ≤ gg ∧ v6 = .int .i64 i ∧ v5 = .string (strOfNums (Bm.digs l i)) ∧ Lk (Below w.heap.size w wr))
  case atStart => exact ⟨0, by omega, by omega, rfl, rfl, ⟨Below.refl _ _⟩⟩
  case round =>
    obtain ⟨i, hi, hg, rfl, rfl, HB⟩ := hrel
    obtain ⟨wo, rfl⟩ : ∃ wo : World, wo = wr := ⟨_, rfl⟩
    by_cases h1 : (i : Int) < n
    · by_cases h2 : (i : Int) < 4096
      · have hsz : (strOfNums (Bm.digs l i)).size ≤ 4096 := by rw [strOfNums_size, Bm.digs_length]; omega
        have HH := Lk.mk (refHas_any A c l i wo (HR.out.below HB.out) HW.out (by omega))
        rw [show Bm.hasL l (i : Int) = Bm.bitAt l i by unfold Bm.hasL; rw [if_neg (by omega), Int.toNat_natCast]] at HH
        have HX := Lk.mk (Bm.digs_succ l i)
        generalize Bm.digs l i = ds at *
        cases hb : Bm.bitAt l i with
        | true =>
          rw [hb] at HH HX
          clear hb
          go_wp2_with (go_at_call 34; (with_reducible refine (HH.out).mono ?_); rintro e w' ⟨rfl, hw⟩; obtain rfl := hw.symm; clear hw)
          go_roundg (4096 - (i + 1))
          case measure => omega
          case rel => exact ⟨i + 1, by omega, by omega, by go_num, by rw [HX.out]; exact congrArg Value.string (str_snoc ds 49 49 rfl), HB⟩
        | false =>
          rw [hb] at HH HX
          clear hb
          go_wp2_with (go_at_call 34; (with_reducible refine (HH.out).mono ?_); rintro e w' ⟨rfl, hw⟩; obtain rfl := hw.symm; clear hw)
          go_roundg (4096 - (i + 1))
          case measure => omega
          case rel => exact ⟨i + 1, by omega, by omega, by go_num, by rw [HX.out]; exact congrArg Value.string (str_snoc ds 48 48 rfl), HB⟩
      · have HE := Lk.mk (show textM n = i by have := HM.out; omega)
        have h2' : (4096 : Int) ≤ (i : Int) := by omega
        have h2n : 4096 ≤ i := by omega
        have h2d : decide ((i : Int) < 4096) = false := by simp; omega
        clear h2
        go_wp2
        go_ret
        exact ⟨by rw [HE.out]; rfl, HB.out⟩
    · have HE := Lk.mk (show textM n = i by have := HM.out; omega)
      have h1' : n ≤ (i : Int) := by omega
      clear h1
      go_wp2
      go_ret
      exact ⟨by rw [HE.out]; rfl, HB.out⟩

theorem tx5 : strOfNums (Bm.digs [10] (textM 5)) = ⟨#[48, 49, 48, 49, 48]⟩ := by decide +kernel
theorem b10w : Bm.Words [10] := by
  intro x hx
  obtain rfl : x = 10 := by simpa using hx
  decide
theorem has_one (A : Option Addr) (c : Nat) (l : List Int) (i : Int) (W : World) (hr : ReadsInt W .u64 A l.length l) (hw : Bm.Words l) (hi : i ≤ 9223372036854775807) :
    Calls Tryd.prog 37 #[.slice A l.length c, .slice (some ⟨W.heap.size, 0, none⟩) 1 1] (W.alloc (.cells #[.int .i64 i] 3)) fun e w' => e = .returned (.bool (Bm.hasL l i)) ∧ Below W.heap.size W w' := by
  have h0 : Below W.heap.size W (W.alloc (.cells #[.int .i64 i] 3)) := below_alloc (Below.refl _ _) _
  have hq : ReadsInt (W.alloc (.cells #[.int .i64 i] 3)) .i64 (some ⟨W.heap.size, 0, none⟩) ([i] : List Int).length [i] := own_reads' (own_lit W W.heap.size 3 .i64 [i] (Nat.le_refl _) (by simp))
  have := hasAll_any A c l (some ⟨W.heap.size, 0, none⟩) 1 [i] _ (hr.below h0) hw hq (by simpa using hi)
  rw [show hasAll l [i] = Bm.hasL l i by unfold hasAll; simp] at this
  exact this.mono fun e w' ⟨he, hb⟩ => ⟨he, below_then h0 h0.size hb⟩
set_option maxRecDepth 100000 in
set_option maxHeartbeats 2000000 in
theorem awake03_any (w : World) (hT : Tab w) : Calls Tryd.prog 31 #[] w fun e w' => e = .returned (.bool true) ∧ Below w.heap.size w w' := by
  have h0 : Below w.heap.size w (w.alloc (.cells #[.int .i64 1, .int .i64 3] 3)) := below_alloc (Below.refl _ _) _
  have hq : ReadsInt (w.alloc (.cells #[.int .i64 1, .int .i64 3] 3)) .i64 (some ⟨w.heap.size, 0, none⟩) ([1, 3] : List Int).length [1, 3] := own_reads' (own_lit w w.heap.size 3 .i64 [1, 3] (Nat.le_refl _) (by simp))
  have HO := Lk.mk (of_any (some ⟨w.heap.size, 0, none⟩) 2 [1, 3] _ hq)
  rw [show ([1, 3] : List Int).length = 2 from rfl, show Bm.ofL [1, 3] = [10] by decide +kernel, show ([10] : List Int).length = 1 from rfl] at HO
  have H0 := Lk.mk h0
  have HT := Lk.mk hT
  have HX := Lk.mk (fun A c W (hr : ReadsInt W .u64 A 1 [10]) (hT : Tab W) => show Calls Tryd.prog 40 #[.slice A 1 c, .int .i64 5] W fun e w' => e = .returned (.string ⟨#[48, 49, 48, 49, 48]⟩) ∧ Below W.heap.size W w' from tx5 ▸ text_any A c [10] 5 W hr b10w (by decide) hT)
  have HH3 := Lk.mk (fun A c W (hr : ReadsInt W .u64 A 1 [10]) => show Calls Tryd.prog 37 #[.slice A 1 c, .slice (some ⟨W.heap.size, 0, none⟩) 1 1] (W.alloc (.cells #[.int .i64 3] 3)) fun e w' => e = .returned (.bool true) ∧ Below W.heap.size W w' from (show Bm.hasL [10] 3 = true by decide +kernel) ▸ has_one A c [10] 3 W hr b10w (by decide))
  have HH2 := Lk.mk (fun A c W (hr : ReadsInt W .u64 A 1 [10]) => show Calls Tryd.prog 37 #[.slice A 1 c, .slice (some ⟨W.heap.size, 0, none⟩) 1 1] (W.alloc (.cells #[.int .i64 2] 3)) fun e w' => e = .returned (.bool false) ∧ Below W.heap.size W w' from (show Bm.hasL [10] 2 = false by decide +kernel) ▸ has_one A c [10] 2 W hr b10w (by decide))
  clear h0 hq hT
  go_enter Tryd.func31, Tryd.ntmps31
  go_wp2_with (first
    | (go_at_call 32; (with_reducible refine (HO.out).mono ?_); rintro e w1 ⟨v, rfl, ho, hb⟩; obtain ⟨A1, c1, rfl, hr1⟩ := own_reads ho; have HR := Lk.mk hr1; have HB := Lk.mk (below_then H0.out H0.out.size hb); clear ho hb hr1; have HQ := Lk.mk (Below.refl w1.heap.size w1))
    | (go_at_call 40; (with_reducible refine (HX.out _ _ _ (HR.out.below HQ.out) (HT.out.below (below_then HB.out HB.out.size HQ.out))).mono ?_); rintro e w2 ⟨rfl, hb⟩; have HQ := Lk.mk (below_then HQ.out HQ.out.size hb); clear hb)
    | (go_at_call 37; (with_reducible refine (HH3.out _ _ _ (HR.out.below HQ.out)).mono ?_); rintro e w2 ⟨rfl, hb⟩; have HQ := Lk.mk (below_then HQ.out HQ.out.size hb); clear hb)
    | (go_at_call 37; (with_reducible refine (HH2.out _ _ _ (HR.out.below HQ.out)).mono ?_); rintro e w2 ⟨rfl, hb⟩; have HQ := Lk.mk (below_then HQ.out HQ.out.size hb); clear hb))
  go_ret
  exact ⟨rfl, below_then HB.out HB.out.size HQ.out⟩
end Go.Proofs.YtmlchbldcoenaaaDoor
