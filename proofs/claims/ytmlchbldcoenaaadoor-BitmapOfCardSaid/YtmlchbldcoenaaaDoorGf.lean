/-
  The walk of the law BitmapOf; conditions: what is handed in reads as told, the table of deBruijn stands.
-/
import Derived.Test.YtmlchbldcoenaaaDoorGe
import Derived.Test.YtmlchbldcoenaaaDoorGb
namespace Go.Proofs.YtmlchbldcoenaaaDoor
open Go.RowKit Go.Proofs.YtmlchbldcoenaaaDoorW.PrintWords

def hasTo (b is : List Int) (k : Nat) : Bool := (is.take k).all (Bm.hasL b)
theorem hasTo_next {b is : List Int} {k : Nat} (h : k < is.length) : hasTo b is (k + 1) = (hasTo b is k && Bm.hasL b (is.getD k 0)) := by
  unfold hasTo
  rw [take_one h, List.all_append]
  simp
theorem hasTo_all (b is : List Int) : hasTo b is is.length = hasAll b is := by
  unfold hasTo hasAll
  rw [List.take_length, List.all_eq_not_any_not]
theorem hasAll_ref (l is : List Int) : hasAll (Bm.refTo l (Bm.refN l)) is = hasAll (Bm.ofL l) is := by
  unfold hasAll
  congr 2
  funext i
  rw [Bm.hasL_ref]

set_option maxRecDepth 100000 in
set_option maxHeartbeats 2000000 in
theorem lawOfBitmapOf (A : Option Addr) (c : Nat) (l : List Int) (B : Option Addr) (c' : Nat) (is : List Int) (w : World) (hr : ReadsInt w .i64 A l.length l) (_ : ∀ x ∈ l, -9223372036854775808 ≤ x ∧ x ≤ 9223372036854775807) (hq : ReadsInt w .i64 B is.length is) (his : ∀ x ∈ is, -9223372036854775808 ≤ x ∧ x ≤ 9223372036854775807) (hT : Tab w) :
    Calls Tryd.prog 7 #[.slice A l.length c, .slice B is.length c'] w fun e w' => e = .returned (.bool true) ∧ Below w.heap.size w w' := by
  have hm := hr.2.1
  have hm2 := hq.2.1
  have HT := Lk.mk hT
  by_cases h1 : 100 < l.length
  · have h1z : (100 : Int) < (l.length : Int) := by omega
    clear hr hq hT
    go_enter Tryd.func7, Tryd.ntmps7
    go_wp2_with (go_at_call 31; (with_reducible refine (awake03_any _ HT.out).mono ?_); rintro e w1 ⟨rfl, hb⟩)
    go_ret
    exact ⟨rfl, hb⟩
  · have h1z : ¬ (100 : Int) < (l.length : Int) := by omega
    by_cases h2 : 100 < is.length
    · have h2z : (100 : Int) < (is.length : Int) := by omega
      clear hr hq hT
      go_enter Tryd.func7, Tryd.ntmps7
      go_wp2_with (go_at_call 31; (with_reducible refine (awake03_any _ HT.out).mono ?_); rintro e w1 ⟨rfl, hb⟩)
      go_ret
      exact ⟨rfl, hb⟩
    · have h2z : ¬ (100 : Int) < (is.length : Int) := by omega
      have HR := Lk.mk hr
      have HQ := Lk.mk hq
      have HI := Lk.mk his
      have HO := Lk.mk (of_any A c l w hr)
      have HW := Lk.mk (fun W (hb : Below w.heap.size w W) => refOf_any A c l W (hr.below hb))
      have hwO := Bm.ofL_words l
      have hwR := Bm.refTo_words l (Bm.refN l)
      have HS := Lk.mk (Bm.same_ref l)
      have HTi := Lk.mk (Bm.tight_of l)
      have HRH := Lk.mk (fun A c i W (hr : ReadsInt W .u64 A (Bm.refTo l (Bm.refN l)).length (Bm.refTo l (Bm.refN l))) (hi : i ≤ 9223372036854775807) => refHas_any A c (Bm.refTo l (Bm.refN l)) i W hr hwR hi)
      have HA := Lk.mk (fun A c W (hr : ReadsInt W .u64 A (Bm.ofL l).length (Bm.ofL l)) (hb : ReadsInt W .i64 B is.length is) => hasAll_any A c (Bm.ofL l) B c' is W hr hwO hb (fun i hi => (his i hi).2))
      have HAR := Lk.mk (hasAll_ref l is)
      clear hr hq hT his hwO hwR
      generalize Bm.refTo l (Bm.refN l) = rf at *
      generalize Bm.ofL l = ol at *
      go_enter Tryd.func7, Tryd.ntmps7
      go_wp2_with (first
        | (go_at_call 32; (with_reducible refine (HO.out).mono ?_); rintro e w1 ⟨v1, rfl, ho, hb⟩; obtain ⟨A1, c1, rfl, hr1⟩ := own_reads ho; have HB := Lk.mk hb; have H1 := Lk.mk hr1; clear ho hb hr1)
        | (go_at_call 33; (with_reducible refine (HW.out _ HB.out).mono ?_); rintro e w2 ⟨v2, rfl, ho, hb⟩; obtain ⟨A2, c2, rfl, hr2⟩ := own_reads ho; have HB2 := Lk.mk (below_then HB.out HB.out.size hb); have H1 := Lk.mk (H1.out.below hb); have H2 := Lk.mk hr2; clear ho hb hr2))
      go_loopg [7, 8] is.length (fun gg v7 v8 wr => ∃ (k : Nat) (r : Bool), k ≤ is.length ∧ is.length - k ≤ gg ∧ v8 = .int .i64 k ∧ v7 = .bool r ∧ Lk (r = hasTo rf is k) ∧ wr = w2)
      case atStart => exact ⟨0, true, by omega, by omega, rfl, rfl, ⟨rfl⟩, rfl⟩
      case round =>
        obtain ⟨k, r, hk, hg, rfl, rfl, HE, hwr⟩ := hrel
        obtain rfl := hwr.symm
        clear hwr
        by_cases hlt : k < is.length
        · have hltz : (k : Int) < (is.length : Int) := by omega
          obtain ⟨ad, rfl, hc⟩ := (HQ.out.below HB2.out).at_ (k : Int) (by omega) hltz
          rw [Int.toNat_natCast, rd_n] at hc
          have HX := Lk.mk (hasTo_next (b := rf) hlt)
          have HZ := Lk.mk (HRH.out A2 c2 (is.getD k 0) _ H2.out (HI.out _ (getD_mem _ hlt)).2)
          rw [← HE.out] at HX
          generalize Bm.hasL rf (is.getD k 0) = q at *
          generalize is.getD k 0 = x at *
          cases r with
          | false =>
            go_wp2
            go_roundg (is.length - (k + 1))
            case measure => omega
            case rel => exact ⟨k + 1, false, by omega, by omega, by go_num, rfl, ⟨by rw [HX.out]; rfl⟩, rfl⟩
          | true =>
            go_wp2_with (go_at_call 34; (with_reducible refine (HZ.out).mono ?_); rintro e w' ⟨rfl, hw⟩; obtain rfl := hw.symm; clear hw)
            go_roundg (is.length - (k + 1))
            case measure => omega
            case rel => exact ⟨k + 1, q, by omega, by omega, by go_num, rfl, ⟨by rw [HX.out]; rfl⟩, rfl⟩
        · have hltz : ¬ (k : Int) < (is.length : Int) := by omega
          obtain rfl : k = is.length := by omega
          rw [hasTo_all, HAR.out] at HE
          have HA2 := Lk.mk (fun A c W (hr : ReadsInt W .u64 A ol.length ol) (hb : ReadsInt W .i64 B is.length is) => HE.out.symm ▸ HA.out A c W hr hb)
          have hrr : (r == r) = true := by simp
          have HB := Lk.mk (HB2.out)
          go_wp2_with (first
            | (go_at_call 35; (with_reducible refine (HS.out ▸ same03_any _ _ ol _ _ rf _ H1.out H2.out).mono ?_); rintro e w' ⟨rfl, hw⟩; obtain rfl := hw.symm; clear hw)
            | (go_at_call 36; (with_reducible refine (HTi.out ▸ tight_any _ _ ol _ H1.out).mono ?_); rintro e w' ⟨rfl, hw⟩; obtain rfl := hw.symm; clear hw)
            | (go_at_call 37; (with_reducible refine (HA2.out _ _ _ H1.out (HQ.out.below HB.out)).mono ?_); rintro e w5 ⟨rfl, hb⟩; have HB := Lk.mk (below_then HB.out HB.out.size hb); clear hb)
            | (go_at_call 31; (with_reducible refine (awake03_any _ (HT.out.below HB.out)).mono ?_); rintro e w1 ⟨rfl, hb⟩; have HB := Lk.mk (below_then HB.out HB.out.size hb); clear hb))
          go_ret
          exact ⟨rfl, HB.out⟩
end Go.Proofs.YtmlchbldcoenaaaDoor
