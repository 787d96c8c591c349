/-
  The walks of the library's IndexFunc and ContainsFunc at stacks, and of walk.May; conditions: what is handed in reads as told.
-/
import Derived.Test.YtcepafllgjnngaaDoorK3
namespace Go.Proofs.YtcepafllgjnngaaDoor
open Go.RowKit Go.Proofs.YtcepafllgjnngaaDoorW.PrintWords

set_option maxRecDepth 100000 in
set_option maxHeartbeats 2000000 in
theorem index_stk (A : Option Addr) (c : Nat) (l : List Sl.Fr) (p : Sl.Fr → Bool) (g : Nat) (lb : Array Value) (w : World) (eg : ∀ args w, (callFunc g args).run Tryd.prog w = .ok (.enter g args) w) (hr : kFr.C w A l.length l)
    (hp : ∀ W f, f ∈ l → Below w.heap.size w W → Calls Tryd.prog g (#[.agg #[.int .i64 f.1, .int .i64 f.2.1, .int .i64 f.2.2]] ++ lb) W fun e W' => e = .returned (.bool (p f)) ∧ Below W.heap.size W W') :
    Calls Tryd.prog 160 #[.slice A l.length c, .func (.func g) #[] lb] w fun e w' => (∃ j : Int, e = .returned (.int .i64 j) ∧ decide (0 ≤ j) = l.any p) ∧ Below w.heap.size w w' := by
  have HR := Lk.mk hr
  have HP := Lk.mk hp
  have hm := hr.2.1
  clear hr hp
  go_enter Tryd.func160, Tryd.ntmps160
  go_wp2
  go_loopg [5, 8] l.length (fun gg _ v8 wr => ∃ kk : Nat, kk ≤ l.length ∧ l.length - kk ≤ gg ∧ v8 = .int .i64 kk ∧ Lk (∀ j, j < kk → p (l.getD j Sl.dFr) = false) ∧ Lk (Below w.heap.size w wr))
  case atStart => exact ⟨0, by omega, by omega, rfl, ⟨fun j hj => absurd hj (by omega)⟩, ⟨Below.refl _ _⟩⟩
  case round =>
    obtain ⟨kk, hk, hg, rfl, HN, HB⟩ := hrel
    by_cases hlt : kk < l.length
    · obtain ⟨ad, rfl, hcell0, hcell1, hcell2⟩ := kFr_at (Kd.C_below HR.out HB.out) kk hlt
      have hltz : (kk : Int) < (l.length : Int) := by omega
      obtain ⟨f, hf⟩ : ∃ f, f = l.getD kk Sl.dFr := ⟨_, rfl⟩
      rw [← hf] at hcell0 hcell1 hcell2
      have HM := Lk.mk (show f ∈ l by rw [hf]; exact getD_mem _ hlt)
      have HF := Lk.mk hf
      have hq := Lk.mk (HP.out wr f HM.out HB.out)
      clear hf
      cases hpx : p f with
      | true =>
        rw [hpx] at hq
        have HPX := Lk.mk hpx
        clear hpx
        go_wp2_with (go_at_fn g; (with_reducible refine hq.out.mono ?_); rintro e w' ⟨rfl, hb⟩)
        go_ret
        refine ⟨⟨_, rfl, ?_⟩, below_then HB.out HB.out.size hb⟩
        have : l.any p = true := List.any_eq_true.2 ⟨f, HM.out, HPX.out⟩
        rw [this]; simp
      | false =>
        rw [hpx] at hq
        have HPX := Lk.mk hpx
        clear hpx
        go_wp2_with (go_at_fn g; (with_reducible refine hq.out.mono ?_); rintro e w' ⟨rfl, hb⟩)
        go_roundg (l.length - (kk + 1))
        case measure => omega
        case rel =>
          refine ⟨kk + 1, by omega, by omega, by go_num, ⟨fun j hj => ?_⟩, ⟨below_then HB.out HB.out.size hb⟩⟩
          by_cases e : j = kk
          · subst e; rw [← HF.out]; exact HPX.out
          · exact HN.out j (by omega)
    · have hltz : ¬ (kk : Int) < (l.length : Int) := by omega
      obtain rfl : kk = l.length := by omega
      go_wp2
      go_ret
      refine ⟨⟨_, rfl, ?_⟩, HB.out⟩
      have : l.any p = false := by
        rw [List.any_eq_false]
        intro x hx
        obtain ⟨j, hj, rfl⟩ := List.getElem_of_mem hx
        have := HN.out j hj
        rw [List.getD_eq_getElem?_getD, List.getElem?_eq_getElem hj] at this
        simpa using this
      rw [this]; simp
set_option maxRecDepth 100000 in
set_option maxHeartbeats 2000000 in
theorem contains_stk (A : Option Addr) (c : Nat) (l : List Sl.Fr) (p : Sl.Fr → Bool) (g : Nat) (lb : Array Value) (w : World) (eg : ∀ args w, (callFunc g args).run Tryd.prog w = .ok (.enter g args) w) (hr : kFr.C w A l.length l)
    (hp : ∀ W f, f ∈ l → Below w.heap.size w W → Calls Tryd.prog g (#[.agg #[.int .i64 f.1, .int .i64 f.2.1, .int .i64 f.2.2]] ++ lb) W fun e W' => e = .returned (.bool (p f)) ∧ Below W.heap.size W W') :
    Calls Tryd.prog 128 #[.slice A l.length c, .func (.func g) #[] lb] w fun e w' => e = .returned (.bool (l.any p)) ∧ Below w.heap.size w w' := by
  have HI := Lk.mk (index_stk A c l p g lb w eg hr hp)
  clear hr hp
  generalize l.any p = r at *
  go_enter Tryd.func128, Tryd.ntmps128
  go_wp2_with (go_at_call 160; (with_reducible refine (HI.out).mono ?_); rintro e w' ⟨⟨j, rfl, hj⟩, hb⟩; have HJ := Lk.mk hj; clear hj)
  all_goals go_ret
  all_goals exact ⟨ret_bool (by rw [← HJ.out]), hb⟩

set_option maxRecDepth 100000 in
set_option maxHeartbeats 2000000 in
theorem wmayLit_any (g b q : Nat) (ws : List Int) (x : Int × (Int × Int)) (w : World) (h : ArB w g b ws) (hc : w.cell? ⟨q, 0, none⟩ = some (.pointer (some ⟨g, 0, none⟩))) (hx : -9223372036854775808 ≤ x.2.1 ∧ x.2.1 ≤ 9223372036854775807) :
    Calls Tryd.prog 133 #[.agg #[.int .i64 x.1, .int .i64 x.2.1, .int .i64 x.2.2], .pointer (some ⟨q, 0, none⟩)] w fun e w' => e = .returned (.bool (!(mayS ws.length x))) ∧ Below w.heap.size w w' := by
  have H0 := Lk.mk (below_alloc (Below.refl w.heap.size w) (.cells #[.int .i64 x.1, .int .i64 x.2.1, .int .i64 x.2.2] 41))
  have HM := Lk.mk (wmay_any g b ws x _ (h.below H0.out) hx)
  have hcd := pw_cell_below H0.out hc
  have HX := Lk.mk (blk_new w (.cells #[.int .i64 x.1, .int .i64 x.2.1, .int .i64 x.2.2] 41))
  obtain ⟨c0, c1, c2, _, _, _⟩ := cells3c HX.out
  obtain ⟨lo, sz, sp⟩ := x
  dsimp only at *
  clear h
  generalize mayS ws.length (lo, (sz, sp)) = r at *
  go_enter Tryd.func133, Tryd.ntmps133
  go_wp2_with (go_at_call 78; (with_reducible refine (HM.out).mono ?_); rintro e w1 ⟨rfl, hb⟩; have HB := Lk.mk (below_then H0.out H0.out.size hb); clear hb)
  go_ret
  exact ⟨rfl, HB.out⟩
set_option maxRecDepth 100000 in
set_option maxHeartbeats 2000000 in
theorem wMay_any (g b : Nat) (ws : List Int) (A : Option Addr) (c : Nat) (l : List Sl.Fr) (w : World) (h : ArB w g b ws) (hr : kFr.C w A l.length l) (hx : ∀ x ∈ l, -9223372036854775808 ≤ x.2.1 ∧ x.2.1 ≤ 9223372036854775807) :
    Calls Tryd.prog 84 #[.pointer (some ⟨g, 0, none⟩), .slice A l.length c] w fun e w' => e = .returned (.bool (!(l.any fun x => !(mayS ws.length x)))) ∧ Below w.heap.size w w' := by
  have H0 := Lk.mk (below_alloc (Below.refl w.heap.size w) (.cells #[.pointer (some ⟨g, 0, none⟩)] 43))
  have HX := Lk.mk (blk_new w (.cells #[.pointer (some ⟨g, 0, none⟩)] 43))
  have hc0 := blk_cell HX.out 0
  simp only [List.getElem?_toArray, List.getElem?_cons_zero] at hc0
  have HC := Lk.mk (contains_stk A c l (fun x => !(mayS ws.length x)) 133 #[.pointer (some ⟨w.heap.size, 0, none⟩)] _ (enters_of Tryd.func133 (by kernel_rfl) rfl) (Kd.C_below hr H0.out)
    (fun W x hxl hb => wmayLit_any g b w.heap.size ws x W ((h.below H0.out).below hb) (pw_cell_below hb hc0) (hx x hxl)))
  clear h hr hx
  generalize (l.any fun x => !(mayS ws.length x)) = r at *
  go_enter Tryd.func84, Tryd.ntmps84
  go_wp2_with (go_at_call 128; (with_reducible refine (HC.out).mono ?_); rintro e w' ⟨rfl, hb⟩)
  go_ret
  exact ⟨rfl, below_then H0.out H0.out.size hb⟩
end Go.Proofs.YtcepafllgjnngaaDoor
