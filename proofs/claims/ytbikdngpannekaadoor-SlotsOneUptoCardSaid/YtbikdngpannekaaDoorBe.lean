/-
  The walks of bitmap.cut, bitmap.With and bitmap.Of; conditions: what is handed in reads as told, at most 2^40 words.
-/
import Derived.Test.YtbikdngpannekaaDoorBa
import Derived.BigRegion
namespace Go.Proofs.YtbikdngpannekaaDoor
open Go.RowKit Go.Proofs.YtbikdngpannekaaDoorW.PrintWords

theorem take_one {l : List Int} {k : Nat} (h : k < l.length) : l.take (k + 1) = l.take k ++ [l.getD k 0] := by
  rw [List.take_succ_eq_append_getElem h, List.getD_eq_getElem?_getD, List.getElem?_eq_getElem h]; rfl

set_option maxHeartbeats 1000000 in
theorem cut_any (A : Option Addr) (c : Nat) (l : List Int) (w : World) (hr : ReadsInt w .u64 A l.length l) (hc : l.length ≤ c) :
    Calls Tryd.prog 145 #[.slice A l.length c] w fun e w' => e = .returned (.slice A (Bm.cutL l).length c) ∧ w' = w := by
  obtain ⟨i0, hi0, hz0, hz1, hz2⟩ := info_parts info25
  have HR := Lk.mk hr
  have hm := hr.2.1
  have HC := Lk.mk hc
  have hsl : ∀ k : Nat, k + 1 ≤ l.length → ∀ W : World, (Instr.slice 37 (.slice A (k + 1) c) none (some (.int .i64 (k : Int))) none).run Tryd.prog W = .ok (.slice A k c) W := fun k hk W => by
    have h := (print_take_int (k := .u64) 37 25 Tryd.underlying37 hi0 hz1 A c (l.take (k + 1)) (k : Int) (by omega) (by rw [List.length_take]; omega) (by rw [List.length_take]; omega)).1 W
    rw [Int.toNat_natCast, List.take_take, List.length_take, List.length_take] at h
    rw [show min (k + 1) l.length = k + 1 by omega, show min (min k (k + 1)) l.length = k by omega] at h
    exact h
  have HS := Lk.mk hsl
  clear hr hc hsl hi0 hz0 hz1 hz2
  go_enter Tryd.func145, Tryd.ntmps145
  go_wp2
  go_loopg [0] l.length (fun gg v0 wr => ∃ m : Nat, m ≤ l.length ∧ m ≤ gg ∧ v0 = .slice A m c ∧ wr = w ∧ Lk (Bm.cutL (l.take m) = Bm.cutL l))
  case atStart => exact ⟨l.length, Nat.le_refl _, Nat.le_refl _, rfl, rfl, ⟨by rw [List.take_length]⟩⟩
  case round =>
    obtain ⟨m, hml, hg, rfl, rfl, HT⟩ := hrel
    cases m with
    | zero =>
      have H := Lk.mk (show (Bm.cutL l).length = 0 by rw [← HT.out]; rfl)
      go_wp2
      go_ret
      exact ⟨by rw [H.out]; rfl, rfl⟩
    | succ k =>
      obtain ⟨ad, rfl, hcell⟩ := HR.out.at_ (k : Int) (by omega) (by omega)
      have HX := Lk.mk (show rd l (k : Int) = l.getD k 0 by unfold rd; rw [Int.toNat_natCast])
      rw [Int.toNat_natCast, HX.out] at hcell
      have HTK := Lk.mk (take_one (l := l) (k := k) (by omega))
      have hs := HS.out k hml
      have hpos : (0 : Int) < (k : Int) + 1 := by omega
      have hlt : (k : Int) < (k : Int) + 1 := by omega
      by_cases hz : l.getD k 0 = 0
      · rw [hz] at hcell
        have HZ := Lk.mk hz
        clear hz
        go_wp2
        go_roundg k
        case measure => omega
        case rel => exact ⟨k, by omega, Nat.le_refl _, rfl, rfl, ⟨by rw [← HT.out, HTK.out, HZ.out, Bm.cutL_snoc_zero]⟩⟩
      · have hzb : (l.getD k 0 == 0) = false := by simpa using hz
        have H := Lk.mk (show (Bm.cutL l).length = k + 1 by rw [← HT.out, HTK.out, Bm.cutL_snoc _ _ hz, List.length_append, List.length_take]; simp; omega)
        clear hz
        generalize l.getD k 0 = x at *
        go_wp2
        go_ret
        exact ⟨by rw [H.out]; rfl, rfl⟩
end Go.Proofs.YtbikdngpannekaaDoor
