/-
  Rows of values that are read; the walks of slots.may, of the library's IndexFunc and ContainsFunc at values, of slots.May, and of the reference's May; conditions: what is handed in reads as told.
-/
import Derived.Test.YtbikdngpannekaaDoorC1
import Derived.Test.YtbikdngpannekaaDoorBp
import Derived.Deep.RegionHeld3
namespace Go.Proofs.YtbikdngpannekaaDoor
open Go.RowKit Go.Proofs.YtbikdngpannekaaDoorW.PrintWords

def kVl : Kd Sl.Vl := Kd.pair (Kd.int .u8) (Kd.pair (Kd.int .u64) (Kd.pair (Kd.int .i64) (Kd.int .i64)))
/-- a value as Go has it -/
def vAgg (v : Sl.Vl) : Value := .agg #[.int .u8 v.1, .int .u64 v.2.1, .int .i64 v.2.2.1, .int .i64 v.2.2.2]
theorem kVl_at {w : World} {A : Option Addr} {n : Nat} {l : List Sl.Vl} (h : kVl.C w A n l) (k : Nat) (hk : k < n) : ∃ ad, A = some ad ∧ w.cell? (ad.add (k * 4)) = some (.int .u8 (l.getD k Sl.dVl).1) ∧ w.cell? ⟨(ad.add (k * 4)).block, (ad.add (k * 4)).off + 1, none⟩ = some (.int .u64 (l.getD k Sl.dVl).2.1) ∧ w.cell? ⟨(ad.add (k * 4)).block, (ad.add (k * 4)).off + 2, none⟩ = some (.int .i64 (l.getD k Sl.dVl).2.2.1) ∧ w.cell? ⟨(ad.add (k * 4)).block, (ad.add (k * 4)).off + 3, none⟩ = some (.int .i64 (l.getD k Sl.dVl).2.2.2) := by
  obtain ⟨ad, c, e, _, ⟨c0, c', rfl, rfl, c1, c2, rfl, rfl, c3, c4, rfl, rfl, rfl⟩, hc⟩ := ReadsRow.get_ h Sl.dVl (k : Int) (by omega) (by omega)
  rw [Int.toNat_natCast] at hc
  have hc0 := hc 0 _ rfl
  have hc1 := hc 1 _ rfl
  have hc2 := hc 2 _ rfl
  have hc3 := hc 3 _ rfl
  rw [Nat.add_zero] at hc0
  refine ⟨ad, e, hc0, ?_, ?_, ?_⟩
  · rw [← add_field _ _ 1 (by omega)]; exact hc1
  · rw [← add_field _ _ 2 (by omega)]; exact hc2
  · rw [← add_field _ _ 3 (by omega)]; exact hc3
/-- what the machine's types say of a value -/
def VlIn (v : Sl.Vl) : Prop := (0 ≤ v.1 ∧ v.1 ≤ 255) ∧ (0 ≤ v.2.1 ∧ v.2.1 ≤ 18446744073709551615) ∧ (-9223372036854775808 ≤ v.2.2.1 ∧ v.2.2.1 ≤ 9223372036854775807) ∧ (-9223372036854775808 ≤ v.2.2.2 ∧ v.2.2.2 ≤ 9223372036854775807)

set_option maxRecDepth 100000 in
set_option maxHeartbeats 2000000 in
theorem smay_any (v : Sl.Vl) (w : World) (hv : VlIn v) : Calls Tryd.prog 64 #[.agg #[.int .u8 v.1, .int .u64 v.2.1, .int .i64 v.2.2.1, .int .i64 v.2.2.2]] w fun e w' => e = .returned (.bool (Sl.mayV v)) ∧ Below w.heap.size w w' := by
  obtain ⟨k, b, d, s⟩ := v
  have h0 : Below w.heap.size w (w.alloc (.cells #[.int .u8 k, .int .u64 b, .int .i64 d, .int .i64 s] 27)) := below_alloc (Below.refl _ _) _
  have H0 := Lk.mk h0
  have H := Lk.mk (Sl.mayV_iff (k, b, d, s))
  dsimp only at H
  have hv' := hv
  obtain ⟨hk, hb, hd, hs⟩ := hv
  dsimp only at hk hb hd hs ⊢
  clear h0 hv'
  generalize Sl.mayV (k, b, d, s) = r at *
  go_enter Tryd.func64, Tryd.ntmps64
  go_wp2
  all_goals go_ret
  all_goals refine ⟨ret_bool ?_, below_alloc (Below.refl _ _) _⟩
  all_goals rw [Bool.eq_iff_iff, H.out]
  all_goals clear H H0
  all_goals (simp only [beq_iff_eq, bne_iff_ne, beq_eq_false_iff_ne, bne_eq_false_iff_eq, decide_eq_true_eq, decide_eq_false_iff_not, ne_eq, Bool.false_eq_true, Bool.true_eq_false, Bool.and_eq_true, Bool.or_eq_true, Bool.not_eq_true', not_true_eq_false, not_false_eq_true, false_iff, true_iff, iff_true, iff_false] at *; omega)

set_option maxRecDepth 100000 in
set_option maxHeartbeats 2000000 in
theorem index_vals (A : Option Addr) (c : Nat) (l : List Sl.Vl) (p : Sl.Vl → Bool) (g : Nat) (lb : Array Value) (w : World) (eg : ∀ args w, (callFunc g args).run Tryd.prog w = .ok (.enter g args) w) (hr : kVl.C w A l.length l)
    (hp : ∀ W f, f ∈ l → Below w.heap.size w W → Calls Tryd.prog g (#[.agg #[.int .u8 f.1, .int .u64 f.2.1, .int .i64 f.2.2.1, .int .i64 f.2.2.2]] ++ lb) W fun e W' => e = .returned (.bool (p f)) ∧ Below W.heap.size W W') :
    Calls Tryd.prog 113 #[.slice A l.length c, .func (.func g) #[] lb] w fun e w' => (∃ j : Int, e = .returned (.int .i64 j) ∧ decide (0 ≤ j) = l.any p) ∧ Below w.heap.size w w' := by
  have HR := Lk.mk hr
  have HP := Lk.mk hp
  have hm := hr.2.1
  clear hr hp
  go_enter Tryd.func113, Tryd.ntmps113
  go_wp2
  go_loopg [5, 8] l.length (fun gg _ v8 wr => ∃ kk : Nat, kk ≤ l.length ∧ l.length - kk ≤ gg ∧ v8 = .int .i64 kk ∧ Lk (∀ j, j < kk → p (l.getD j Sl.dVl) = false) ∧ Lk (Below w.heap.size w wr))
  case atStart => exact ⟨0, by omega, by omega, rfl, ⟨fun j hj => absurd hj (by omega)⟩, ⟨Below.refl _ _⟩⟩
  case round =>
    obtain ⟨kk, hk, hg, rfl, HN, HB⟩ := hrel
    by_cases hlt : kk < l.length
    · obtain ⟨ad, rfl, hcell0, hcell1, hcell2, hcell3⟩ := kVl_at (Kd.C_below HR.out HB.out) kk hlt
      have hltz : (kk : Int) < (l.length : Int) := by omega
      obtain ⟨f, hf⟩ : ∃ f, f = l.getD kk Sl.dVl := ⟨_, rfl⟩
      rw [← hf] at hcell0 hcell1 hcell2 hcell3
      have HM := Lk.mk (show f ∈ l by rw [hf]; exact getD_mem _ hlt)
      have HF := Lk.mk hf
      have hq := Lk.mk (HP.out wr f HM.out HB.out)
      clear hf
      cases hpx : p f with
      | true =>
        rw [hpx] at hq
        have HPX := Lk.mk hpx
        clear hpx
        go_wp2_with (go_at_fn g; (with_reducible refine hq.out.mono ?_); rintro e w' ⟨rfl, hb⟩)
        go_ret
        refine ⟨⟨_, rfl, ?_⟩, below_then HB.out HB.out.size hb⟩
        have : l.any p = true := List.any_eq_true.2 ⟨f, HM.out, HPX.out⟩
        rw [this]; simp
      | false =>
        rw [hpx] at hq
        have HPX := Lk.mk hpx
        clear hpx
        go_wp2_with (go_at_fn g; (with_reducible refine hq.out.mono ?_); rintro e w' ⟨rfl, hb⟩)
        go_roundg (l.length - (kk + 1))
        case measure => omega
        case rel =>
          refine ⟨kk + 1, by omega, by omega, by go_num, ⟨fun j hj => ?_⟩, ⟨below_then HB.out HB.out.size hb⟩⟩
          by_cases e : j = kk
          · subst e; rw [← HF.out]; exact HPX.out
          · exact HN.out j (by omega)
    · have hltz : ¬ (kk : Int) < (l.length : Int) := by omega
      obtain rfl : kk = l.length := by omega
      go_wp2
      go_ret
      refine ⟨⟨_, rfl, ?_⟩, HB.out⟩
      have : l.any p = false := by
        rw [List.any_eq_false]
        intro x hx
        obtain ⟨j, hj, rfl⟩ := List.getElem_of_mem hx
        have := HN.out j hj
        rw [List.getD_eq_getElem?_getD, List.getElem?_eq_getElem hj] at this
        simpa using this
      rw [this]; simp
set_option maxRecDepth 100000 in
set_option maxHeartbeats 2000000 in
theorem contains_vals (A : Option Addr) (c : Nat) (l : List Sl.Vl) (p : Sl.Vl → Bool) (g : Nat) (lb : Array Value) (w : World) (eg : ∀ args w, (callFunc g args).run Tryd.prog w = .ok (.enter g args) w) (hr : kVl.C w A l.length l)
    (hp : ∀ W f, f ∈ l → Below w.heap.size w W → Calls Tryd.prog g (#[.agg #[.int .u8 f.1, .int .u64 f.2.1, .int .i64 f.2.2.1, .int .i64 f.2.2.2]] ++ lb) W fun e W' => e = .returned (.bool (p f)) ∧ Below W.heap.size W W') :
    Calls Tryd.prog 62 #[.slice A l.length c, .func (.func g) #[] lb] w fun e w' => e = .returned (.bool (l.any p)) ∧ Below w.heap.size w w' := by
  have HI := Lk.mk (index_vals A c l p g lb w eg hr hp)
  clear hr hp
  generalize l.any p = r at *
  go_enter Tryd.func62, Tryd.ntmps62
  go_wp2_with (go_at_call 113; (with_reducible refine (HI.out).mono ?_); rintro e w' ⟨⟨j, rfl, hj⟩, hb⟩; have HJ := Lk.mk hj; clear hj)
  all_goals go_ret
  all_goals exact ⟨ret_bool (by rw [← HJ.out]), hb⟩

set_option maxRecDepth 100000 in
set_option maxHeartbeats 2000000 in
theorem smayLit_any (v : Sl.Vl) (w : World) (hv : VlIn v) : Calls Tryd.prog 63 #[.agg #[.int .u8 v.1, .int .u64 v.2.1, .int .i64 v.2.2.1, .int .i64 v.2.2.2]] w fun e w' => e = .returned (.bool (!(Sl.mayV v))) ∧ Below w.heap.size w w' := by
  have h0 : Below w.heap.size w (w.alloc (.cells #[.int .u8 v.1, .int .u64 v.2.1, .int .i64 v.2.2.1, .int .i64 v.2.2.2] 27)) := below_alloc (Below.refl _ _) _
  have HM := Lk.mk (fun W => smay_any v W hv)
  have H0 := Lk.mk h0
  clear h0
  generalize Sl.mayV v = r at *
  go_enter Tryd.func63, Tryd.ntmps63
  go_wp2_with (go_at_call 64; (with_reducible refine (HM.out _).mono ?_); rintro e w' ⟨rfl, hb⟩)
  go_ret
  exact ⟨rfl, below_then H0.out H0.out.size hb⟩

def VlsIn (l : List Sl.Vl) : Prop := ∀ v ∈ l, VlIn v
set_option maxRecDepth 100000 in
set_option maxHeartbeats 2000000 in
theorem smayAll_any (A : Option Addr) (c : Nat) (l : List Sl.Vl) (w : World) (hr : kVl.C w A l.length l) (hv : VlsIn l) :
    Calls Tryd.prog 17 #[.slice A l.length c] w fun e w' => e = .returned (.bool (Sl.mayVs l)) ∧ Below w.heap.size w w' := by
  have HC := Lk.mk (contains_vals A c l (fun v => !(Sl.mayV v)) 63 #[] w (enters_of Tryd.func63 (by kernel_rfl) rfl) hr
    (fun W f hf hb => smayLit_any f W (hv f hf)))
  have H := Lk.mk (show Sl.mayVs l = !(l.any fun v => !(Sl.mayV v)) from rfl)
  clear hr
  generalize Sl.mayVs l = r at *
  generalize (l.any fun v => !(Sl.mayV v)) = q at *
  go_enter Tryd.func17, Tryd.ntmps17
  go_wp2_with (go_at_call 62; (with_reducible refine (HC.out).mono ?_); rintro e w' ⟨rfl, hb⟩)
  go_ret
  exact ⟨ret_bool (by rw [H.out]), hb⟩
set_option maxRecDepth 100000 in
set_option maxHeartbeats 2000000 in
theorem refVMay_any (v : Sl.Vl) (w : World) (hv : VlIn v) : Calls Tryd.prog 16 #[.agg #[.int .u8 v.1, .int .u64 v.2.1, .int .i64 v.2.2.1, .int .i64 v.2.2.2]] w fun e w' => e = .returned (.bool (Sl.mayV v)) ∧ Below w.heap.size w w' := by
  obtain ⟨k, b, d, s⟩ := v
  have h0 : Below w.heap.size w (w.alloc (.cells #[.int .u8 k, .int .u64 b, .int .i64 d, .int .i64 s] 27)) := below_alloc (Below.refl _ _) _
  have H0 := Lk.mk h0
  have H := Lk.mk (Sl.mayV_iff (k, b, d, s))
  dsimp only at H
  obtain ⟨hk, hb, hd, hs⟩ := hv
  dsimp only at hk hb hd hs ⊢
  clear h0
  generalize Sl.mayV (k, b, d, s) = r at *
  go_enter Tryd.func16, Tryd.ntmps16
  go_wp2
  all_goals go_ret
  all_goals refine ⟨ret_bool ?_, below_alloc (Below.refl _ _) _⟩
  all_goals rw [Bool.eq_iff_iff, H.out]
  all_goals clear H H0
  all_goals (simp only [beq_iff_eq, bne_iff_ne, beq_eq_false_iff_ne, bne_eq_false_iff_eq, decide_eq_true_eq, decide_eq_false_iff_not, ne_eq, Bool.false_eq_true, Bool.true_eq_false, Bool.and_eq_true, Bool.or_eq_true, Bool.not_eq_true', not_true_eq_false, not_false_eq_true, false_iff, true_iff, iff_true, iff_false] at *; omega)
end Go.Proofs.YtbikdngpannekaaDoor
