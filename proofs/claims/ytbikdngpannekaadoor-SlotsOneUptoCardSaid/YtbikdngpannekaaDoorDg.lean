/-
  The walks of the words' reference: In, Store; conditions: what is handed in reads as told.
-/
import Derived.Test.YtbikdngpannekaaDoorDc
namespace Go.Proofs.YtbikdngpannekaaDoor
open Go.RowKit Go.Proofs.YtbikdngpannekaaDoorW.PrintWords

set_option maxRecDepth 100000 in
set_option maxHeartbeats 2000000 in
theorem refIn04_any (A : Option Addr) (c m : Nat) (at_ n : Int) (w : World) (hm : m ≤ 9223372036854775807) : Calls Tryd.prog 72 #[.slice A m c, .int .i64 at_, .int .i64 n] w fun e w' => e = .returned (.bool (inL m at_ n)) ∧ w' = w := by
  have H := Lk.mk (show inL m at_ n = (decide (0 ≤ n) && decide (0 ≤ at_) && decide (at_ ≤ m) && decide (n ≤ m - at_)) from rfl)
  generalize inL m at_ n = r at *
  go_enter Tryd.func72, Tryd.ntmps72
  go_wp2
  all_goals go_ret
  all_goals refine ⟨ret_bool ?_, rfl⟩
  all_goals rw [H.out]
  all_goals clear H
  all_goals simp_all
  all_goals (first | omega | (intro _; omega) | done)
theorem rdk (l : List Int) (k : Nat) : rd l k = l.getD k 0 := by unfold rd; rw [Int.toNat_natCast]
/-- the words while they are being written -/
def midW (ws l : List Int) (k : Nat) : List Int := l.take k ++ ws.drop k
theorem midW_length (ws l : List Int) (k : Nat) (hk : k ≤ l.length) (hl : l.length ≤ ws.length) : (midW ws l k).length = ws.length := by
  unfold midW; simp; omega
theorem midW_next (ws l : List Int) (k : Nat) (hk : k < l.length) (hl : l.length ≤ ws.length) : (midW ws l k).set k (l.getD k 0) = midW ws l (k + 1) := by
  unfold midW
  apply List.ext_getElem?
  intro i
  rw [List.getElem?_set]
  simp only [List.getElem?_append, List.length_append, List.length_take, List.length_drop, List.getElem?_take, List.getElem?_drop, Nat.min_eq_left (Nat.le_of_lt hk), Nat.min_eq_left (show k + 1 ≤ l.length by omega)]
  by_cases h : k = i
  · subst h
    rw [if_pos rfl, if_pos (by omega), if_pos (by omega), if_pos (by omega)]
    simp [List.getD_eq_getElem?_getD, List.getElem?_eq_getElem hk]
  · rw [if_neg h]
    by_cases h2 : i < k
    · rw [if_pos h2, if_pos h2, if_pos (by omega), if_pos (by omega)]
    · rw [if_neg h2, if_neg (by omega)]
      congr 1; omega
theorem midW_end (ws l : List Int) : midW ws l l.length = putW ws 0 l := by
  unfold midW putW; simp
set_option maxRecDepth 100000 in
set_option maxHeartbeats 2000000 in
theorem refStore04_any (A : Option Addr) (c : Nat) (ws : List Int) (V : Option Addr) (c' : Nat) (l : List Int) (w : World) (hr : ReadsInt w .u64 A ws.length ws) (hq : ReadsInt w .u64 V l.length l) (hl : l.length ≤ ws.length) (hw : ws.length ≤ 1000000) :
    Calls Tryd.prog 28 #[.slice A ws.length c, .int .i64 0, .slice V l.length c'] w fun e w' => ∃ v, e = .returned (.tuple #[v, .int .i64 0]) ∧ w'.ownsRow w.heap.size 25 1 v (putW ws 0 l).length (nums .u64 (putW ws 0 l)) ∧ Below w.heap.size w w' := by
  have HIN := Lk.mk (fun W => refIn04_any A c ws.length 0 l.length W (by omega))
  have hin : inL ws.length 0 l.length = true := by unfold inL; simp; omega
  rw [hin] at HIN
  have HR := Lk.mk hr
  have HQ := Lk.mk hq
  clear hr hq hin
  go_enter Tryd.func28, Tryd.ntmps28
  go_wp2_with (first
    | (go_at_call 72; (with_reducible refine (HIN.out _).mono ?_); rintro e w' ⟨rfl, hw⟩; obtain rfl := hw.symm; clear hw)
    | (at_builtin; refine print_append_row (w0 := w) w.heap.size rfl _ _ 37 25 .u64 8 rfl Tryd.underlying37 info25 (by decide) (.slice (some ⟨w.heap.size, 0, none⟩) 0 0) [] ws A ws.length c rfl rfl (own_lit w w.heap.size 25 .u64 [] (Nat.le_refl _) (by simp)) (HR.out.below (below_alloc (Below.refl _ _) _)) (below_alloc (Below.refl _ _) _) (by simp) (by simp; omega) ?_; intro v1 w1 hown hb _ _; rw [List.nil_append] at hown; have HO := Lk.mk hown; have HB := Lk.mk hb; clear hown hb))
  go_loopg [9, 22] l.length (fun gg v9 v22 wr => ∃ k : Nat, k ≤ l.length ∧ l.length - k ≤ gg ∧ v22 = .int .i64 k ∧ Lk (wr.ownsRow w.heap.size 25 1 v1 ws.length (nums .u64 (midW ws l k))) ∧ Lk (Below w.heap.size w wr))
  case atStart => exact ⟨0, by omega, by omega, rfl, ⟨HO.out⟩, ⟨HB.out⟩⟩
  case round =>
    obtain ⟨k, hk, hg, rfl, HO1, HB1⟩ := hrel
    clear HO HB
    by_cases hlt : k < l.length
    · have hltz : (k : Int) < (l.length : Int) := by omega
      have hml := midW_length ws l k hk hl
      have HML := Lk.mk hml
      obtain ⟨g, cap, rfl, _, _⟩ := HO1.out.form (by omega)
      obtain ⟨ad, hV, hc⟩ := (HQ.out.below HB1.out).at_ (k : Int) (by omega) hltz
      subst hV
      rw [Int.toNat_natCast, rdk] at hc
      obtain ⟨hce, hf⟩ := own_at HO1.out (k : Int) (by omega) (by omega)
      rw [Int.toNat_natCast] at hf
      rw [Int.toNat_natCast, rdk] at hce
      generalize (midW ws l k).getD k 0 = old at *
      have hs := (own_store HO1.out (k : Int) (l.getD k 0)).1
      rw [Int.toNat_natCast, midW_next ws l k hlt hl] at hs
      have HS := Lk.mk hs
      have HB2 := Lk.mk (HB1.out.setCell (p := ⟨g, k, none⟩) (own_base HO1.out g rfl) (.int .u64 (l.getD k 0)))
      clear hs HO1 HB1 HIN
      generalize l.getD k 0 = x at *
      go_wp2
      go_roundg (l.length - (k + 1))
      case measure => omega
      case rel => exact ⟨k + 1, by omega, by omega, by go_num, HS, HB2⟩
    · have hltz : ¬ (k : Int) < (l.length : Int) := by omega
      obtain rfl : k = l.length := by omega
      rw [midW_end] at HO1
      have hpl := Lk.mk (putW_length ws 0 l (by omega))
      go_wp2
      go_ret2
      exact ⟨_, rfl, by rw [hpl.out]; exact HO1.out, HB1.out⟩
end Go.Proofs.YtbikdngpannekaaDoor
