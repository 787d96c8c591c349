/-
  The walk of the arena's Move; conditions: the arena reads as told.
-/
import Derived.Test.YtcepafllgjnngaaDoorK2
namespace Go.Proofs.YtcepafllgjnngaaDoor
open Go.RowKit Go.Proofs.YtcepafllgjnngaaDoorW.PrintWords

set_option maxRecDepth 100000 in
set_option maxHeartbeats 2000000 in
theorem amove_some (g b : Nat) (ws : List Int) (to_ from_ n : Nat) (w : World) (h : ArB w g b ws) (h1 : from_ + n ≤ ws.length) (h2 : to_ + n ≤ ws.length) (hn : 0 < n) :
    Calls Tryd.prog 85 #[.pointer (some ⟨g, 0, none⟩), .int .i64 to_, .int .i64 from_, .int .i64 n] w fun e w' => e = .returned (.int .i64 0) ∧ ArB w' g b (putW ws to_ ((ws.drop from_).take n)) ∧ KeepW b w w' := by
  have h0 : Below w.heap.size w (w.alloc (.cells #[.int .i64 0] 30)) := below_alloc (Below.refl _ _) _
  have hA := h.below h0
  have hlen : ((ws.drop from_).take n).length = n := by rw [List.length_take, List.length_drop]; omega
  have HP := Lk.mk (part_some g b ws from_ n _ hA h1 hn)
  have HP2 := Lk.mk (part_some g b ws to_ n _ hA h2 hn)
  have HE := Lk.mk (blk_new w (.cells #[.int .i64 0] 30))
  have HR := Lk.mk (hA.part from_ n h1)
  have HA := Lk.mk hA
  have HW := Lk.mk (show Bm.Words ((ws.drop from_).take n) from fun x hx => h.words x (List.mem_of_mem_drop (List.mem_of_mem_take hx)))
  have hbl := h.lt
  have HI := Lk.mk (show to_ + ((ws.drop from_).take n).length ≤ ws.length by rw [hlen]; exact h2)
  have HN := Lk.mk (show 0 < ((ws.drop from_).take n).length by rw [hlen]; exact hn)
  have HMN := Lk.mk (show ((ws.drop from_).take n).length = Nat.min n n by rw [hlen]; exact (Nat.min_self n).symm)
  have HA0 := Lk.mk h
  clear h h0 hA hlen
  generalize (ws.drop from_).take n = L at *
  go_enter_defers Tryd.func85, Tryd.ntmps85
  go_wp2_with (first | (go_at_call 60; (with_reducible refine (HP.out).mono ?_); rintro e w' ⟨rfl, rfl⟩) | (go_at_call 60; (with_reducible refine (HP2.out).mono ?_); rintro e w' ⟨rfl, rfl⟩) | ((with_reducible refine copy_arena rfl (.tmp 17) (.tmp 18) rfl g b ws to_ n (ws.length - to_) (some ⟨b, from_, none⟩) n (ws.length - from_) L HA.out HN.out rfl rfl HMN.out HR.out HI.out ?_); intro W2 HROW HK; have hE2 := (HK.out.block w.heap.size (blk_lt HE.out) (Nat.ne_of_gt hbl)).trans HE.out; have hcE := blk_cell hE2 0; have hzE := blk_frozen hE2 0; have HE2 := Lk.mk hE2; simp only [List.getElem?_toArray, List.getElem?_cons_zero] at hcE; clear hE2))
  refine leaves_cons (f := 59) (args := #[.pointer (some ⟨w.heap.size, 0, none⟩)]) (by simp) (by simp [go_sem]) ?_
  refine (caught_idle _ _).mono ?_
  rintro e u' w'' ⟨rfl, rfl, rfl⟩
  have hcE2 := blk_cell (blk_put (cs' := #[.int .i64 0]) HE2.out 0 (.int .i64 0) rfl) 0
  simp only [List.getElem?_toArray, List.getElem?_cons_zero] at hcE2
  have HK2 := (KeepW.of_below (below_alloc (Below.refl w.heap.size w) (.cells #[.int .i64 0] 30)) b).trans HK.out
  have HK3 : KeepW b w (W2.setCell ⟨w.heap.size, 0, none⟩ (.int .i64 0)) := ⟨HK2.os, HK2.tape, HK2.output, by simpa [World.setCell] using HK2.size, fun k hk hkb => (Below.heap_setCell W2 ⟨w.heap.size, 0, none⟩ _ k (by show k ≠ w.heap.size; omega)).trans (HK2.block k hk hkb)⟩
  simp [Leaves, settle, results, Tryd.results85, go_sem]
  rw [hcE2]
  exact ⟨_, rfl, rfl, HA0.out.wrote HK3 to_ L HI.out HW.out (blk_far HROW.out (p := ⟨w.heap.size, 0, none⟩) (Nat.ne_of_lt hbl) _), HK3⟩
set_option maxRecDepth 100000 in
set_option maxHeartbeats 2000000 in
theorem amove_none (g b : Nat) (ws : List Int) (to_ from_ : Nat) (w : World) (h : ArB w g b ws) (h1 : from_ ≤ ws.length) (h2 : to_ ≤ ws.length) :
    Calls Tryd.prog 85 #[.pointer (some ⟨g, 0, none⟩), .int .i64 to_, .int .i64 from_, .int .i64 0] w fun e w' => e = .returned (.int .i64 0) ∧ Below w.heap.size w w' := by
  have h0 : Below w.heap.size w (w.alloc (.cells #[.int .i64 0] 30)) := below_alloc (Below.refl _ _) _
  have HP := Lk.mk (part_none g b ws from_ _ (h.below h0) (by unfold inL; simp only [Bool.and_eq_true, decide_eq_true_eq]; omega))
  have HP2 := Lk.mk (part_none g b ws to_ _ (h.below h0) (by unfold inL; simp only [Bool.and_eq_true, decide_eq_true_eq]; omega))
  have HE := Lk.mk (blk_new w (.cells #[.int .i64 0] 30))
  clear h h0
  go_enter_defers Tryd.func85, Tryd.ntmps85
  go_wp2_with (first | (go_at_call 60; (with_reducible refine (HP.out).mono ?_); rintro e w' ⟨rfl, rfl⟩) | (go_at_call 60; (with_reducible refine (HP2.out).mono ?_); rintro e w' ⟨rfl, rfl⟩) | (with_reducible refine wpList_copy_nothing rfl (.tmp 17) (.tmp 18) 26 26 rfl 23 Tryd.underlying26 (by kernel_rfl) none none 0 0 0 0 rfl rfl rfl ?_))
  refine leaves_cons (f := 59) (args := #[.pointer (some ⟨w.heap.size, 0, none⟩)]) (by simp) (by simp [go_sem]) ?_
  refine (caught_idle _ _).mono ?_
  rintro e u' w'' ⟨rfl, rfl, rfl⟩
  simp [Leaves, settle, results, Tryd.results85, go_sem]
  exact below_alloc (Below.refl _ _) _
theorem amove_any (g b : Nat) (ws : List Int) (to_ from_ n : Nat) (w : World) (h : ArB w g b ws) (h1 : from_ + n ≤ ws.length) (h2 : to_ + n ≤ ws.length) :
    Calls Tryd.prog 85 #[.pointer (some ⟨g, 0, none⟩), .int .i64 to_, .int .i64 from_, .int .i64 n] w fun e w' => e = .returned (.int .i64 0) ∧ ArB w' g b (putW ws to_ ((ws.drop from_).take n)) ∧ KeepW b w w' := by
  rcases Nat.eq_zero_or_pos n with rfl | hn
  · rw [List.take_zero, putW_nil]
    exact (amove_none g b ws to_ from_ w h (by omega) (by omega)).mono fun e w' ⟨he, hb⟩ => ⟨he, h.below hb, KeepW.of_below hb b⟩
  · exact amove_some g b ws to_ from_ n w h h1 h2 hn
end Go.Proofs.YtcepafllgjnngaaDoor
