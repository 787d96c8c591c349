/-
  The law FloatIs; conditions: bits below 2^64, the table of deBruijn stands.
-/
import Derived.Test.YtpnklpjjbpheeaaDoorYa
import Derived.Test.YtpnklpjjbpheeaaDoorYd
import Derived.Test.YtpnklpjjbpheeaaDoorEa
namespace Go.Proofs.YtpnklpjjbpheeaaDoor
open Go.RowKit Go.Proofs.YtpnklpjjbpheeaaDoorW.PrintWords
open Go.Proofs.Fl Go.Proofs.YtpnklpjjbpheeaaDoor.Flt

theorem tab_below {w w1 : World} (hT : Tab w) (hb : Below w.heap.size w w1) : Tab w1 := hT.below hb
set_option maxRecDepth 100000 in
set_option maxHeartbeats 8000000 in
theorem lawOfFloatIs (z : Int) (w : World) (hz : 0 ≤ z ∧ z ≤ 18446744073709551615) (hT : Tab w) :
    Calls Tryd.prog 3 #[.int .u64 z] w fun e w' => e = .returned (.bool true) ∧ Below w.heap.size w w' := by
  obtain ⟨b, rfl⟩ := Int.eq_ofNat_of_zero_le hz.1
  have hb : b < 18446744073709551616 := by omega
  have HC := Lk.mk (fun W => fclass_any b W hb)
  have HC2 := Lk.mk (fun W => class_any b W hb)
  have HB := Lk.mk (show ∀ W : World, Calls Tryd.prog 8 #[.slice (some ⟨W.heap.size, 0, none⟩) 1 1] (W.alloc (.cells #[.int .u64 (b : Int)] 22)) fun e w' => e = .returned (.bool (FlPlain.below b)) ∧ w' = W.alloc (.cells #[.int .u64 (b : Int)] 22) from fun W => by
    have hin : ∀ x ∈ [b], x < 18446744073709551616 := fun x hx => by rw [List.mem_singleton.1 hx]; exact hb
    have hrd : RdU (W.alloc (.cells #[.int .u64 (b : Int)] 22)) (some ⟨W.heap.size, 0, none⟩) [b] := ⟨by simp, fun k hk => by
      have hk0 : k = 0 := by simpa using hk
      subst hk0
      exact ⟨⟨W.heap.size, 0, none⟩, rfl, blk_cell (blk_new W (.cells #[.int .u64 (b : Int)] 22)) 0⟩⟩
    have h := fbelow_any (some ⟨W.heap.size, 0, none⟩) 1 [b] (W.alloc (.cells #[.int .u64 (b : Int)] 22)) hrd hin
    exact h.mono fun e w' ⟨he, hw⟩ => ⟨by rw [he]; simp, hw⟩)
  have HB2 := Lk.mk (fun W => below_any b W)
  have HT1 := Lk.mk (fun W (hw : Below w.heap.size w W) => ftext_any b W hb (tab_below hT hw))
  have HT2 := Lk.mk (fun W => rtext_any b W hb)
  have HAW := Lk.mk awake_any
  have HBa := Lk.mk (below_alloc (Below.refl w.heap.size w) (.cells #[.int .u64 (b : Int)] 22))
  clear hz hb hT
  generalize strOfNums (Hx.low 16 b) = T at *
  generalize FlPlain.cls b = c at *
  generalize FlPlain.below b = s at *
  go_enter Tryd.func3, Tryd.ntmps3
  go_wp2_with (first
    | (go_at_call 6; (with_reducible refine (HC.out _).mono ?_); rintro e w' ⟨rfl, rfl⟩)
    | (go_at_call 7; (with_reducible refine (HC2.out _).mono ?_); rintro e w' ⟨rfl, rfl⟩)
    | (go_at_call 8; (with_reducible refine (HB.out _).mono ?_); rintro e w' ⟨rfl, rfl⟩)
    | (go_at_call 9; (with_reducible refine (HB2.out _).mono ?_); rintro e w' ⟨rfl, rfl⟩)
    | (go_at_call 10; (with_reducible refine (HT1.out _ HBa.out).mono ?_); rintro e w1 ⟨rfl, hb⟩; have HB1 := Lk.mk (below_then HBa.out HBa.out.size hb); clear hb)
    | (go_at_call 11; (with_reducible refine (HT2.out _).mono ?_); rintro e w' ⟨rfl, rfl⟩)
    | (go_at_call 12; (with_reducible refine (HAW.out _).mono ?_); rintro e w2 ⟨rfl, n, rfl⟩))
  go_ret
  exact ⟨rfl, pw_below_drewN HB1.out n⟩
end Go.Proofs.YtpnklpjjbpheeaaDoor
