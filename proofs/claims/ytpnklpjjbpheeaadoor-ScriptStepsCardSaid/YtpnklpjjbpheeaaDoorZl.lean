/-
  The walk of the reference's Step where a number isn't plain or the value may not be; conditions: none.
-/
import Derived.Test.YtpnklpjjbpheeaaDoorZk
import Derived.Lib.ConvBytes
import Derived.Laws.BytesArg
import Derived.Laws.Rows
import Derived.Deep.RegionHeld3
namespace Go.Proofs.YtpnklpjjbpheeaaDoor
open Go.RowKit Go.Proofs.YtpnklpjjbpheeaaDoorW.PrintWords
open Go.Proofs.Fl Go.Proofs.YtpnklpjjbpheeaaDoor.Flt

/-- only the fields of the kind are set -/
def restB (x : St) (n : Nat) : Bool :=
  (decide (x.k = 1) || decide (x.k = 3) || decide (x.f = 0)) && (!(decide (x.k = 1) || decide (x.k = 11) || decide (x.k = 12) || decide (x.k = 13)) || decide (x.g = 0)) && (decide (x.k = 9) || decide (n = 0) && decide (x.o = 0)) &&
  ((decide (x.k = 5) || decide (x.k = 6) || decide (x.k = 7) || decide (x.k = 8) || decide (x.k = 9)) || decide (x.d = 0)) && ((decide (x.k = 5) || decide (x.k = 6) || decide (x.k = 7) || decide (x.k = 8)) || decide (x.s = 0)) &&
  ((decide (x.k = 5) || decide (x.k = 8)) || decide (x.v0 = 0) && decide (x.v1 = 0) && decide (x.v2 = 0) && decide (x.v3 = 0)) && (!(decide (x.k = 8)) || decide (x.v0 = 1)) && (!(decide (x.k = 9)) || decide (n = 3) && decide (1 ≤ x.o) && decide (x.o ≤ 10))
def headB (x : St) : Bool := okK x.k && plain7 x && Sl.mayV x.v
def rstepB (x : St) (l : List Int) : Bool := headB x && !(l.any plN) && restB x l.length
set_option maxRecDepth 100000 in
set_option maxHeartbeats 8000000 in
theorem rstep_no (x : St) (A : Option Addr) (c : Nat) (l : List Int) (w : World) (hx : StIn x) (h : headB x = false) :
    Calls Tryd.prog 17 #[.agg (stCells x A l.length c)] w fun e w' => e = .returned (.bool false) ∧ Below w.heap.size w w' := by
  have HV := Lk.mk (fun W => refVMay_any x.v W hx.v)
  obtain ⟨k, p, g, f, d, s, v0, v1, v2, v3, o⟩ := x
  have HH := Lk.mk h
  unfold headB plain7 St.v at HH
  unfold St.v at HV
  unfold stCells
  dsimp only at HH HV
  dsimp only
  have HB0 := Lk.mk (below_alloc (Below.refl w.heap.size w) (.cells #[.int .u8 k, .int .i64 p, .int .i64 g, .int .i64 f, .int .i64 d, .int .i64 s, .int .u8 v0, .int .u64 v1, .int .i64 v2, .int .i64 v3, .int .u8 o, .slice A l.length c] 46))
  have HX := Lk.mk (blk_new w (.cells #[.int .u8 k, .int .i64 p, .int .i64 g, .int .i64 f, .int .i64 d, .int .i64 s, .int .u8 v0, .int .u64 v1, .int .i64 v2, .int .i64 v3, .int .u8 o, .slice A l.length c] 46))
  obtain ⟨⟨b0, b1, b2, b3, b4, b5⟩, b6, b7, b8, b9, b10, b11⟩ := line_cells HX.out
  have HPp := Lk.mk (fun W => rplain_any p W)
  have HPg := Lk.mk (fun W => rplain_any g W)
  have HPf := Lk.mk (fun W => rplain_any f W)
  have HPd := Lk.mk (fun W => rplain_any d W)
  have HPs := Lk.mk (fun W => rplain_any s W)
  have HPv2 := Lk.mk (fun W => rplain_any v2 W)
  have HPv3 := Lk.mk (fun W => rplain_any v3 W)
  clear h hx
  by_cases hk1 : k < 1
  · clear HH
    go_enter Tryd.func17, Tryd.ntmps17
    go_wp2
    go_ret
    exact ⟨rfl, HB0.out⟩
  · by_cases hk2 : 13 < k
    · clear HH
      go_enter Tryd.func17, Tryd.ntmps17
      go_wp2
      go_ret
      exact ⟨rfl, HB0.out⟩
    · have HK := Lk.mk (show okK k = true by unfold okK; rw [decide_eq_true (by omega), decide_eq_true (by omega)]; rfl)
      cases hp : plN p with
      | true =>
        rw [hp] at HPp
        clear HH hp
        go_enter Tryd.func17, Tryd.ntmps17
        go_wp2_with (first
          | (go_at_call 29; (with_reducible refine (HPp.out _).mono ?_); rintro e w' ⟨rfl, hw⟩; obtain rfl := hw.symm; clear hw))
        go_ret
        exact ⟨rfl, HB0.out⟩
      | false =>
        rw [hp] at HPp
        cases hg : plN g with
        | true =>
          rw [hg] at HPg
          clear HH hg
          go_enter Tryd.func17, Tryd.ntmps17
          go_wp2_with (first
            | (go_at_call 29; (with_reducible refine (HPp.out _).mono ?_); rintro e w' ⟨rfl, hw⟩; obtain rfl := hw.symm; clear hw)
            | (go_at_call 29; (with_reducible refine (HPg.out _).mono ?_); rintro e w' ⟨rfl, hw⟩; obtain rfl := hw.symm; clear hw))
          go_ret
          exact ⟨rfl, HB0.out⟩
        | false =>
          rw [hg] at HPg
          cases hf : plN f with
          | true =>
            rw [hf] at HPf
            clear HH hf
            go_enter Tryd.func17, Tryd.ntmps17
            go_wp2_with (first
              | (go_at_call 29; (with_reducible refine (HPp.out _).mono ?_); rintro e w' ⟨rfl, hw⟩; obtain rfl := hw.symm; clear hw)
              | (go_at_call 29; (with_reducible refine (HPg.out _).mono ?_); rintro e w' ⟨rfl, hw⟩; obtain rfl := hw.symm; clear hw)
              | (go_at_call 29; (with_reducible refine (HPf.out _).mono ?_); rintro e w' ⟨rfl, hw⟩; obtain rfl := hw.symm; clear hw))
            go_ret
            exact ⟨rfl, HB0.out⟩
          | false =>
            rw [hf] at HPf
            cases hd : plN d with
            | true =>
              rw [hd] at HPd
              clear HH hd
              go_enter Tryd.func17, Tryd.ntmps17
              go_wp2_with (first
                | (go_at_call 29; (with_reducible refine (HPp.out _).mono ?_); rintro e w' ⟨rfl, hw⟩; obtain rfl := hw.symm; clear hw)
                | (go_at_call 29; (with_reducible refine (HPg.out _).mono ?_); rintro e w' ⟨rfl, hw⟩; obtain rfl := hw.symm; clear hw)
                | (go_at_call 29; (with_reducible refine (HPf.out _).mono ?_); rintro e w' ⟨rfl, hw⟩; obtain rfl := hw.symm; clear hw)
                | (go_at_call 29; (with_reducible refine (HPd.out _).mono ?_); rintro e w' ⟨rfl, hw⟩; obtain rfl := hw.symm; clear hw))
              go_ret
              exact ⟨rfl, HB0.out⟩
            | false =>
              rw [hd] at HPd
              cases hs : plN s with
              | true =>
                rw [hs] at HPs
                clear HH hs
                go_enter Tryd.func17, Tryd.ntmps17
                go_wp2_with (first
                  | (go_at_call 29; (with_reducible refine (HPp.out _).mono ?_); rintro e w' ⟨rfl, hw⟩; obtain rfl := hw.symm; clear hw)
                  | (go_at_call 29; (with_reducible refine (HPg.out _).mono ?_); rintro e w' ⟨rfl, hw⟩; obtain rfl := hw.symm; clear hw)
                  | (go_at_call 29; (with_reducible refine (HPf.out _).mono ?_); rintro e w' ⟨rfl, hw⟩; obtain rfl := hw.symm; clear hw)
                  | (go_at_call 29; (with_reducible refine (HPd.out _).mono ?_); rintro e w' ⟨rfl, hw⟩; obtain rfl := hw.symm; clear hw)
                  | (go_at_call 29; (with_reducible refine (HPs.out _).mono ?_); rintro e w' ⟨rfl, hw⟩; obtain rfl := hw.symm; clear hw))
                go_ret
                exact ⟨rfl, HB0.out⟩
              | false =>
                rw [hs] at HPs
                cases hv2 : plN v2 with
                | true =>
                  rw [hv2] at HPv2
                  clear HH hv2
                  go_enter Tryd.func17, Tryd.ntmps17
                  go_wp2_with (first
                    | (go_at_call 29; (with_reducible refine (HPp.out _).mono ?_); rintro e w' ⟨rfl, hw⟩; obtain rfl := hw.symm; clear hw)
                    | (go_at_call 29; (with_reducible refine (HPg.out _).mono ?_); rintro e w' ⟨rfl, hw⟩; obtain rfl := hw.symm; clear hw)
                    | (go_at_call 29; (with_reducible refine (HPf.out _).mono ?_); rintro e w' ⟨rfl, hw⟩; obtain rfl := hw.symm; clear hw)
                    | (go_at_call 29; (with_reducible refine (HPd.out _).mono ?_); rintro e w' ⟨rfl, hw⟩; obtain rfl := hw.symm; clear hw)
                    | (go_at_call 29; (with_reducible refine (HPs.out _).mono ?_); rintro e w' ⟨rfl, hw⟩; obtain rfl := hw.symm; clear hw)
                    | (go_at_call 29; (with_reducible refine (HPv2.out _).mono ?_); rintro e w' ⟨rfl, hw⟩; obtain rfl := hw.symm; clear hw))
                  go_ret
                  exact ⟨rfl, HB0.out⟩
                | false =>
                  rw [hv2] at HPv2
                  cases hv3 : plN v3 with
                  | true =>
                    rw [hv3] at HPv3
                    clear HH hv3
                    go_enter Tryd.func17, Tryd.ntmps17
                    go_wp2_with (first
                      | (go_at_call 29; (with_reducible refine (HPp.out _).mono ?_); rintro e w' ⟨rfl, hw⟩; obtain rfl := hw.symm; clear hw)
                      | (go_at_call 29; (with_reducible refine (HPg.out _).mono ?_); rintro e w' ⟨rfl, hw⟩; obtain rfl := hw.symm; clear hw)
                      | (go_at_call 29; (with_reducible refine (HPf.out _).mono ?_); rintro e w' ⟨rfl, hw⟩; obtain rfl := hw.symm; clear hw)
                      | (go_at_call 29; (with_reducible refine (HPd.out _).mono ?_); rintro e w' ⟨rfl, hw⟩; obtain rfl := hw.symm; clear hw)
                      | (go_at_call 29; (with_reducible refine (HPs.out _).mono ?_); rintro e w' ⟨rfl, hw⟩; obtain rfl := hw.symm; clear hw)
                      | (go_at_call 29; (with_reducible refine (HPv2.out _).mono ?_); rintro e w' ⟨rfl, hw⟩; obtain rfl := hw.symm; clear hw)
                      | (go_at_call 29; (with_reducible refine (HPv3.out _).mono ?_); rintro e w' ⟨rfl, hw⟩; obtain rfl := hw.symm; clear hw))
                    go_ret
                    exact ⟨rfl, HB0.out⟩
                  | false =>
                    rw [hv3] at HPv3
                    have hm : Sl.mayV (v0, (v1, (v2, v3))) = false := by
                      have h1 := HH.out
                      rw [HK.out] at h1
                      simpa [hp, hg, hf, hd, hs, hv2, hv3] using h1
                    rw [hm] at HV
                    clear HH hm hp hg hf hd hs hv2 hv3
                    go_enter Tryd.func17, Tryd.ntmps17
                    go_wp2_with (first
                      | (go_at_call 29; (with_reducible refine (HPp.out _).mono ?_); rintro e w' ⟨rfl, hw⟩; obtain rfl := hw.symm; clear hw)
                      | (go_at_call 29; (with_reducible refine (HPg.out _).mono ?_); rintro e w' ⟨rfl, hw⟩; obtain rfl := hw.symm; clear hw)
                      | (go_at_call 29; (with_reducible refine (HPf.out _).mono ?_); rintro e w' ⟨rfl, hw⟩; obtain rfl := hw.symm; clear hw)
                      | (go_at_call 29; (with_reducible refine (HPd.out _).mono ?_); rintro e w' ⟨rfl, hw⟩; obtain rfl := hw.symm; clear hw)
                      | (go_at_call 29; (with_reducible refine (HPs.out _).mono ?_); rintro e w' ⟨rfl, hw⟩; obtain rfl := hw.symm; clear hw)
                      | (go_at_call 29; (with_reducible refine (HPv2.out _).mono ?_); rintro e w' ⟨rfl, hw⟩; obtain rfl := hw.symm; clear hw)
                      | (go_at_call 29; (with_reducible refine (HPv3.out _).mono ?_); rintro e w' ⟨rfl, hw⟩; obtain rfl := hw.symm; clear hw)
                      | (go_at_call 30; (with_reducible refine (HV.out _).mono ?_); rintro e w1 ⟨rfl, hb⟩; have HB := Lk.mk (below_then HB0.out HB0.out.size hb); clear hb))
                    go_ret
                    exact ⟨rfl, HB.out⟩
end Go.Proofs.YtpnklpjjbpheeaaDoor
