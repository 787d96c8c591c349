/-
  The walk of the reference's Same at rows of frames; conditions: both read as told. Printed by gen_rsame.py.
-/
import Derived.Test.YtcepafllgjnngaaDoorPb
namespace Go.Proofs.YtcepafllgjnngaaDoor
open Go.RowKit Go.Proofs.YtcepafllgjnngaaDoorW.PrintWords

set_option maxRecDepth 100000 in
set_option maxHeartbeats 2000000 in
theorem rsame19_any (A : Option Addr) (c : Nat) (l : List Af) (B : Option Addr) (d : Nat) (m : List Af) (w : World) (hr : kAf.C w A l.length l) (hr2 : kAf.C w B m.length m) :
    Calls Tryd.prog 28 #[.slice A l.length c, .slice B m.length d] w fun e w' => e = .returned (.bool (decide (l = m))) ∧ Below w.heap.size w w' := by
  have hm1 := hr.2.1
  have hm2 := hr2.2.1
  have HR := Lk.mk hr
  have HR2 := Lk.mk hr2
  clear hr hr2
  by_cases hlen : l.length = m.length
  · rw [← hlen] at HR2 hm2 ⊢
    have HLEN := Lk.mk hlen
    clear hlen
    go_enter Tryd.func28, Tryd.ntmps28
    go_wp2
    go_loopg [14] l.length (fun gg v14 wr => ∃ k : Nat, k ≤ l.length ∧ l.length - k ≤ gg ∧ v14 = .int .i64 k ∧ Lk (SmTo dAf l m k) ∧ Lk (Below w.heap.size w wr))
    case atStart => exact ⟨0, by omega, by omega, rfl, ⟨SmTo.zero _ _ _⟩, ⟨Below.refl _ _⟩⟩
    case round =>
      obtain ⟨k, hk, hg, rfl, HE, HB⟩ := hrel
      obtain ⟨wo, rfl⟩ : ∃ wo : World, wo = wr := ⟨_, rfl⟩
      by_cases hlt : k < l.length
      · have hltz : (k : Int) < (l.length : Int) := by omega
        obtain ⟨ad1, A1, c1, rfl, a0, a1, _, ha⟩ := kAf_at (Kd.C_below HR.out HB.out) k hlt
        obtain ⟨ad2, A2, c2, rfl, b0, b1, _, hb⟩ := kAf_at (Kd.C_below HR2.out HB.out) k hlt
        have HX := Lk.mk (fun h : l.getD k dAf = m.getD k dAf => HE.out.next h)
        have H := Lk.mk (sm_ne dAf l m k)
        generalize l.getD k dAf = x at *
        generalize m.getD k dAf = y at *
        obtain ⟨x0, x1⟩ := x
        obtain ⟨y0, y1⟩ := y
        dsimp only at *
        have hn1 := ha.2.1
        have hn2 := hb.2.1
        by_cases h0 : x0 = y0
        · subst h0
          by_cases h1 : x1.length = y1.length
          · rw [← h1] at b1 hb hn2
            have HL1 := Lk.mk h1
            have HA := Lk.mk ha
            have HBv := Lk.mk hb
            have HA1 := Lk.mk a1
            have HB1 := Lk.mk b1
            clear ha hb h1
            go_wp2
            go_region
            go_wp2
            go_loopg [49] x1.length (fun gg v49 W3 => ∃ i : Nat, i ≤ x1.length ∧ x1.length - i ≤ gg ∧ v49 = .int .i64 i ∧ Lk (SmTo Sl.dVl x1 y1 i) ∧ Lk (Below wo.heap.size wo W3))
            case atStart => exact ⟨0, by omega, by omega, rfl, ⟨SmTo.zero _ _ _⟩, ⟨below_drew (Below.refl _ _)⟩⟩
            case round =>
              obtain ⟨i, hi, hg3, rfl, HE3, HB3⟩ := hrel
              have a1' := pw_cell_below HB3.out HA1.out
              have b1' := pw_cell_below HB3.out HB1.out
              clear a0 a1 b0 b1
              by_cases hil : i < x1.length
              · have hiz : (i : Int) < (x1.length : Int) := by omega
                obtain ⟨ad3, rfl, p0, p1, p2, p3⟩ := kVl_at (Kd.C_below HA.out HB3.out) i hil
                obtain ⟨ad4, rfl, q0, q1, q2, q3⟩ := kVl_at (Kd.C_below HBv.out HB3.out) i hil
                have HX3 := Lk.mk (fun h : x1.getD i Sl.dVl = y1.getD i Sl.dVl => HE3.out.next h)
                have H3 := Lk.mk (fun h : ¬ x1.getD i Sl.dVl = y1.getD i Sl.dVl => H.out (fun e => h (by injection e with _ e; rw [e])))
                generalize x1.getD i Sl.dVl = s at *
                generalize y1.getD i Sl.dVl = t at *
                obtain ⟨s0, s1, s2, s3⟩ := s
                obtain ⟨t0, t1, t2, t3⟩ := t
                dsimp only at *
                by_cases hst : s0 = t0 ∧ s1 = t1 ∧ s2 = t2 ∧ s3 = t3
                · obtain ⟨rfl, rfl, rfl, rfl⟩ := hst
                  go_wp2
                  go_region
                  go_wp2
                  go_roundg (x1.length - (i + 1))
                  case measure => omega
                  case rel => exact ⟨i + 1, by omega, by omega, by go_num, ⟨HX3.out (by first | rfl | trivial)⟩, ⟨below_drew HB3.out⟩⟩
                · have H2 := Lk.mk (H3.out (fun e => hst (by injection e with e1 e2; injection e2 with e2 e3; injection e3 with e3 e4; exact ⟨e1, e2, e3, e4⟩)))
                  have HBx := Lk.mk (below_drew (below_then HB.out HB.out.size HB3.out))
                  clear HX3 H3 HX H
                  by_cases e0 : s0 = t0
                  · skip
                    by_cases e1 : s1 = t1
                    · skip
                      by_cases e2 : s2 = t2
                      · skip
                        have e3 : ¬ s3 = t3 := fun h => hst ⟨e0, e1, e2, h⟩
                        clear hst
                        go_wp2
                        go_region
                        go_wp2
                        go_ret
                        exact ⟨ret_bool (by rw [H2.out]), HBx.out⟩
                      · clear hst
                        go_wp2
                        go_region
                        go_wp2
                        go_ret
                        exact ⟨ret_bool (by rw [H2.out]), HBx.out⟩
                    · clear hst
                      go_wp2
                      go_region
                      go_wp2
                      go_ret
                      exact ⟨ret_bool (by rw [H2.out]), HBx.out⟩
                  · clear hst
                    go_wp2
                    go_region
                    go_wp2
                    go_ret
                    exact ⟨ret_bool (by rw [H2.out]), HBx.out⟩
              · have hiz : ¬ (i : Int) < (x1.length : Int) := by omega
                obtain rfl : i = x1.length := by omega
                have HQ := Lk.mk (HX.out (by rw [of_decide_eq_true (sm_all Sl.dVl HL1.out HE3.out)]))
                clear HX H
                go_wp2
                go_roundg (l.length - (k + 1))
                case measure => omega
                case rel => exact ⟨k + 1, by omega, by omega, by go_num, HQ, ⟨below_then HB.out HB.out.size HB3.out⟩⟩
          · have h1z : ¬ (x1.length : Int) = (y1.length : Int) := by omega
            have H2 := Lk.mk (H.out (fun e => h1 (by injection e with _ e; rw [e])))
            have HBx := Lk.mk (below_drew HB.out)
            clear HX H
            go_wp2
            go_region
            go_wp2
            go_ret
            exact ⟨ret_bool (by rw [H2.out]), HBx.out⟩
        · have H2 := Lk.mk (H.out (fun e => h0 (by injection e)))
          have HBx := Lk.mk (below_drew HB.out)
          have hbne : (x0 != y0) = true := bne_iff_ne.2 h0
          clear HX H ha hb a1 b1
          go_wp2
          go_region
          go_wp2
          go_ret
          exact ⟨ret_bool (by rw [H2.out]), HBx.out⟩
      · have hltz : ¬ (k : Int) < (l.length : Int) := by omega
        obtain rfl : k = l.length := by omega
        go_wp2
        go_ret
        exact ⟨ret_bool (sm_all dAf HLEN.out HE.out).symm, HB.out⟩
  · have hlz : ¬ (l.length : Int) = (m.length : Int) := by omega
    have H := Lk.mk (sm_len l m hlen)
    generalize decide (l = m) = r at *
    go_enter Tryd.func28, Tryd.ntmps28
    go_wp2
    go_ret
    exact ⟨ret_bool (by rw [H.out]), Below.refl _ _⟩
end Go.Proofs.YtcepafllgjnngaaDoor
