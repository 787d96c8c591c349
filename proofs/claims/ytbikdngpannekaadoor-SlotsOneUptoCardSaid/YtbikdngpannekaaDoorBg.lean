/-
  The walks of bitmap.With at every number and of bitmap.Of; conditions: what is handed in reads as told.
-/
import Derived.Test.YtbikdngpannekaaDoorBf
namespace Go.Proofs.YtbikdngpannekaaDoor
open Go.RowKit Go.Proofs.YtbikdngpannekaaDoorW.PrintWords

theorem with_any (A : Option Addr) (c : Nat) (l : List Int) (i : Int) (on : Bool) (w : World) (hr : ReadsInt w .u64 A l.length l) (hw : Bm.Words l) (hl : l.length ≤ 1099511627776) :
    Calls Tryd.prog 119 #[.slice A l.length c, .int .i64 i, .bool on] w fun e w' => ∃ v, e = .returned v ∧ w'.ownsRow w.heap.size 25 1 v (Bm.withL l i on).length (nums .u64 (Bm.withL l i on)) ∧ Below w.heap.size w w' := by
  cases hf : Bm.fits i with
  | false =>
    have e : Bm.withL l i on = Bm.cutL l := by unfold Bm.withL; rw [hf]; rfl
    rw [e]; exact with_unfit A c l i on w hf hr hl
  | true =>
    have h2 : 0 ≤ i ∧ i < 4096 := by unfold Bm.fits at hf; simpa using hf
    obtain ⟨j, rfl⟩ := Int.eq_ofNat_of_zero_le h2.1
    exact with_fit A c l j on w (by omega) hr hw hl

theorem rd_getD (l : List Int) (k : Nat) : rd l (k : Int) = l.getD k 0 := by unfold rd; rw [Int.toNat_natCast]
theorem ofL_more {l : List Int} {k : Nat} (h : k < l.length) : Bm.ofL (l.take (k + 1)) = if Bm.fits (l.getD k 0) then Bm.withL (Bm.ofL (l.take k)) (l.getD k 0) true else Bm.ofL (l.take k) := by
  rw [take_one h, Bm.ofL_snoc]

set_option maxHeartbeats 1000000 in
theorem of_any (A : Option Addr) (c : Nat) (is : List Int) (w : World) (hr : ReadsInt w .i64 A is.length is) :
    Calls Tryd.prog 67 #[.slice A is.length c] w fun e w' => ∃ v, e = .returned v ∧ w'.ownsRow w.heap.size 25 1 v (Bm.ofL is).length (nums .u64 (Bm.ofL is)) ∧ Below w.heap.size w w' := by
  have HR := Lk.mk hr
  have hm := hr.2.1
  clear hr
  go_enter Tryd.func67, Tryd.ntmps67
  go_wp2
  go_loopg [3, 5, 8] is.length (fun gg v3 _ v8 wr => ∃ kk : Nat, kk ≤ is.length ∧ is.length - kk ≤ gg ∧ v8 = .int .i64 kk ∧ Lk (wr.ownsRow w.heap.size 25 1 v3 (Bm.ofL (is.take kk)).length (nums .u64 (Bm.ofL (is.take kk)))) ∧ Lk (Below w.heap.size w wr))
  case atStart => exact ⟨0, by omega, by omega, rfl, ⟨own_nil _ _ _ _⟩, ⟨Below.refl _ _⟩⟩
  case round =>
    obtain ⟨kk, hk, hg, rfl, HO, HB⟩ := hrel
    by_cases hlt : kk < is.length
    · obtain ⟨ad, rfl, hcell⟩ := (HR.out.below HB.out).at_ (kk : Int) (by omega) (by omega)
      rw [Int.toNat_natCast, rd_getD] at hcell
      have HM := Lk.mk (ofL_more hlt)
      have hltz : (kk : Int) < (is.length : Int) := by omega
      have HLN := Lk.mk (Bm.ofL_length (is.take kk))
      have HWD := Lk.mk (Bm.ofL_words (is.take kk))
      generalize Bm.ofL (is.take kk) = B at *
      generalize is.getD kk 0 = x at *
      obtain ⟨A1, c1, rfl, hc1, _, hr1⟩ := own_full HO.out
      have HR1 := Lk.mk hr1
      clear hr1 hc1
      cases hf : Bm.fits x with
      | true =>
        have HF := Lk.mk (fun w => hf ▸ fits_any x w)
        have HM2 := Lk.mk (show Bm.ofL (is.take (kk + 1)) = Bm.withL B x true by rw [HM.out, if_pos hf])
        clear hf HM
        have HWT := Lk.mk (with_any A1 c1 B x true wr HR1.out HWD.out (by have := HLN.out; omega))
        go_wp2_with (first | (go_at_call 118; (with_reducible refine (HF.out _).mono ?_); rintro e w2 ⟨rfl, rfl⟩) | (go_at_call 119; (with_reducible refine (HWT.out).mono ?_); rintro e w2 ⟨v, rfl, ho, hb⟩; have HO2 := Lk.mk ho; have HB2 := Lk.mk hb; clear ho hb))
        go_roundg (is.length - (kk + 1))
        case measure => omega
        case rel => exact ⟨kk + 1, by omega, by omega, by go_num, ⟨by rw [HM2.out]; exact own_weaken HO2.out HB.out.size⟩, ⟨below_then HB.out HB.out.size HB2.out⟩⟩
      | false =>
        have HF := Lk.mk (fun w => hf ▸ fits_any x w)
        have HM2 := Lk.mk (show Bm.ofL (is.take (kk + 1)) = B by rw [HM.out, if_neg (by rw [hf]; decide)])
        clear hf HM
        go_wp2_with (first | (go_at_call 118; (with_reducible refine (HF.out _).mono ?_); rintro e w2 ⟨rfl, rfl⟩))
        go_roundg (is.length - (kk + 1))
        case measure => omega
        case rel => exact ⟨kk + 1, by omega, by omega, by go_num, ⟨by rw [HM2.out]; exact HO.out⟩, HB⟩
    · have hltz : ¬ (kk : Int) < (is.length : Int) := by omega
      obtain rfl : kk = is.length := by omega
      go_wp2
      go_ret
      exact ⟨_, rfl, by have := HO.out; rw [List.take_length] at this; exact this, HB.out⟩
end Go.Proofs.YtbikdngpannekaaDoor
