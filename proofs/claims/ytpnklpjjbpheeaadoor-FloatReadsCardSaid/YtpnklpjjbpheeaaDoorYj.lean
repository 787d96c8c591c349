/-
  The law FloatReads; conditions: the table of deBruijn stands.
-/
import Derived.Test.YtpnklpjjbpheeaaDoorYi
import Derived.Lib.ConvBytes
import Derived.Laws.BytesArg
namespace Go.Proofs.YtpnklpjjbpheeaaDoor
open Go.RowKit Go.Proofs.YtpnklpjjbpheeaaDoorW.PrintWords
open Go.Proofs.Fl Go.Proofs.YtpnklpjjbpheeaaDoor.Flt

/-- the text of bits -/
def tx (b : Nat) : ByteArray := strOfNums (Hx.low 16 b)
theorem tx_size (b : Nat) : (tx b).size = 16 := by unfold tx; rw [strOfNums_size, Hx.low_length]
theorem tx_list (b : Nat) : (tx b).data.toList = (Hx.low 16 b).map Hx.toB := strOfNums_data _
theorem tx_rd (b : Nat) (hb : b < 18446744073709551616) : Hx.rd (tx b) = some b := by
  rw [rd_some (tx_size b) (by unfold aH; rw [tx_list]; exact Hx.low_hex 16 b), tx_list, Hx.val_low, Nat.mod_eq_of_lt (Nat.lt_of_lt_of_le hb (by decide))]
theorem rd_tx {s : ByteArray} {v : Nat} (h : Hx.rd s = some v) : tx v = s ∧ v < 18446744073709551616 := by
  unfold Hx.rd at h
  split at h
  · rename_i hh
    have hll : s.data.toList.length = 16 := by simpa using hh.1
    have e : Hx.val s.data.toList = v := Option.some.inj h
    have h1 := Hx.low_val hh.2
    rw [hll, e] at h1
    refine ⟨?_, ?_⟩
    · apply ByteArray.ext
      apply Array.toList_inj.1
      rw [tx_list, h1]
    · have := Hx.val_lt hh.2
      rw [hll, e] at this
      exact Nat.lt_of_lt_of_le this (by decide)
  · cases h
set_option maxRecDepth 100000 in
set_option maxHeartbeats 8000000 in
theorem lawOfFloatReads (s : ByteArray) (z : Int) (w : World) (hsz : s.size ≤ 9223372036854775807) (hz : 0 ≤ z ∧ z ≤ 18446744073709551615) (hT : Tab w) :
    Calls Tryd.prog 4 #[.string s, .int .u64 z] w fun e w' => e = .returned (.bool true) ∧ Below w.heap.size w w' := by
  obtain ⟨b, rfl⟩ := Int.eq_ofNat_of_zero_le hz.1
  have hb : b < 18446744073709551616 := by omega
  have HAW := Lk.mk awake_any
  by_cases h100 : 100 < s.size
  · have hzz : (s.size : Int) > 100 := by omega
    clear hsz hz hT hb h100
    go_enter Tryd.func4, Tryd.ntmps4
    go_wp2_with (go_at_call 12; (with_reducible refine (HAW.out _).mono ?_); rintro e w2 ⟨rfl, n, rfl⟩)
    go_ret
    exact ⟨rfl, pw_below_drewN (Below.refl _ _) n⟩
  · have hzz : ¬ (s.size : Int) > 100 := by omega
    have HR1 := Lk.mk (fread_any s w (by omega))
    have HR2 := Lk.mk (fun W => rread_any s W (by omega))
    have HT1 := Lk.mk (fun W (hw : Below w.heap.size w W) => ftext_any b W hb (tab_below hT hw))
    have HR3 := Lk.mk (fun W => fread_any (tx b) W (by rw [tx_size]; decide))
    have e3 : rdA (tx b) = .tuple #[.int .u64 (b : Nat), .int .i64 0] := by unfold rdA; rw [tx_rd b hb]
    rw [e3] at HR3
    have HT9 := Lk.mk (fun (v : Nat) (hv : v < 18446744073709551616) W (hw : Below w.heap.size w W) => ftext_any v W hv (tab_below hT hw))
    rw [show strOfNums (Hx.low 16 b) = tx b from rfl] at HT1
    clear hsz hz hT hb h100 e3
    cases hrd : Hx.rd s with
    | none =>
      have e1 : rdA s = .tuple #[.int .u64 0, .int .i64 10] := by unfold rdA; rw [hrd]
      have e2 : rrA s = .tuple #[.int .u64 0, .bool false] := by unfold rrA; rw [hrd]
      rw [e1] at HR1
      rw [e2] at HR2
      clear e1 e2 hrd HT9
      generalize tx b = T at *
      go_enter Tryd.func4, Tryd.ntmps4
      go_wp2_with (first
        | (go_at_call 13; (with_reducible refine (HR1.out).mono ?_); rintro e w1 ⟨rfl, hb⟩; have HB := Lk.mk hb; clear hb)
        | (go_at_call 14; (with_reducible refine (HR2.out _).mono ?_); rintro e w' ⟨rfl, rfl⟩)
        | (go_at_call 10; (with_reducible refine (HT1.out _ HB.out).mono ?_); rintro e w3 ⟨rfl, hb⟩; have HB := Lk.mk (below_then HB.out HB.out.size hb); clear hb)
        | (go_at_call 13; (with_reducible refine (HR3.out _).mono ?_); rintro e w4 ⟨rfl, hb⟩; have HB := Lk.mk (below_then HB.out HB.out.size hb); clear hb)
        | (go_at_call 12; (with_reducible refine (HAW.out _).mono ?_); rintro e w2 ⟨rfl, n, rfl⟩))
      go_ret
      exact ⟨rfl, pw_below_drewN HB.out n⟩
    | some v =>
      have e1 : rdA s = .tuple #[.int .u64 (v : Nat), .int .i64 0] := by unfold rdA; rw [hrd]
      have e2 : rrA s = .tuple #[.int .u64 (v : Nat), .bool true] := by unfold rrA; rw [hrd]
      rw [e1] at HR1
      rw [e2] at HR2
      have htx := rd_tx hrd
      have HTV := Lk.mk (fun W (hw : Below w.heap.size w W) => HT9.out v htx.2 W hw)
      rw [show strOfNums (Hx.low 16 v) = tx v from rfl, htx.1] at HTV
      clear e1 e2 hrd HT9 htx
      generalize tx b = T at *
      go_enter Tryd.func4, Tryd.ntmps4
      go_wp2_with (first
        | (go_at_call 13; (with_reducible refine (HR1.out).mono ?_); rintro e w1 ⟨rfl, hb⟩; have HB := Lk.mk hb; clear hb)
        | (go_at_call 14; (with_reducible refine (HR2.out _).mono ?_); rintro e w' ⟨rfl, rfl⟩)
        | (go_at_call 10; (with_reducible refine (HT1.out _ HB.out).mono ?_); rintro e w3 ⟨rfl, hb⟩; have HB := Lk.mk (below_then HB.out HB.out.size hb); clear hb)
        | (go_at_call 13; (with_reducible refine (HR3.out _).mono ?_); rintro e w4 ⟨rfl, hb⟩; have HB := Lk.mk (below_then HB.out HB.out.size hb); clear hb)
        | (go_at_call 10; (with_reducible refine (HTV.out _ HB.out).mono ?_); rintro e w3 ⟨rfl, hb⟩; have HB := Lk.mk (below_then HB.out HB.out.size hb); clear hb)
        | (go_at_call 12; (with_reducible refine (HAW.out _).mono ?_); rintro e w2 ⟨rfl, n, rfl⟩))
      go_ret
      exact ⟨rfl, pw_below_drewN HB.out n⟩
end Go.Proofs.YtpnklpjjbpheeaaDoor
