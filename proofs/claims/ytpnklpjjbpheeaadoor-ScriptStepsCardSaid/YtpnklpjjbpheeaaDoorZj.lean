/-
  The walks of ContainsFunc at steps and of script.Step; conditions: the steps read as told.
-/
import Derived.Test.YtpnklpjjbpheeaaDoorZi
import Derived.Lib.ConvBytes
import Derived.Laws.BytesArg
import Derived.Laws.Rows
import Derived.Deep.RegionHeld3
namespace Go.Proofs.YtpnklpjjbpheeaaDoor
open Go.RowKit Go.Proofs.YtpnklpjjbpheeaaDoorW.PrintWords
open Go.Proofs.Fl Go.Proofs.YtpnklpjjbpheeaaDoor.Flt

set_option maxRecDepth 100000 in
set_option maxHeartbeats 8000000 in
theorem index_steps (A : Option Addr) (c : Nat) (l : List Tp) (p : Tp → Bool) (g : Nat) (lb : Array Value) (w : World) (eg : ∀ args w, (callFunc g args).run Tryd.prog w = .ok (.enter g args) w) (hr : kSt.C w A l.length l)
    (hp : ∀ W t A1 c1, t ∈ l → ReadsInt W .i64 A1 (tSl t).length (tSl t) → Below w.heap.size w W → Calls Tryd.prog g (#[.agg (stCells (tSt t) A1 (tSl t).length c1)] ++ lb) W fun e W' => e = .returned (.bool (p t)) ∧ Below W.heap.size W W') :
    Calls Tryd.prog 66 #[.slice A l.length c, .func (.func g) #[] lb] w fun e w' => (∃ j : Int, e = .returned (.int .i64 j) ∧ decide (0 ≤ j) = l.any p) ∧ Below w.heap.size w w' := by
  have HR := Lk.mk hr
  have HP := Lk.mk hp
  have hm := hr.2.1
  clear hr hp
  go_enter Tryd.func66, Tryd.ntmps66
  go_wp2
  go_loopg [5, 8] l.length (fun gg _ v8 wr => ∃ kk : Nat, kk ≤ l.length ∧ l.length - kk ≤ gg ∧ v8 = .int .i64 kk ∧ Lk (∀ j, j < kk → p (l.getD j dTp) = false) ∧ Lk (Below w.heap.size w wr))
  case atStart => exact ⟨0, by omega, by omega, rfl, ⟨fun j hj => absurd hj (by omega)⟩, ⟨Below.refl _ _⟩⟩
  case round =>
    obtain ⟨kk, hk, hg, rfl, HN, HB⟩ := hrel
    by_cases hlt : kk < l.length
    · obtain ⟨ad, A1, c1, rfl, ⟨⟨q0, q1, q2, q3, q4, q5⟩, q6, q7, q8, q9, q10, q11⟩, hc1, hr1⟩ := kSt_at (Kd.C_below HR.out HB.out) kk hlt
      have hltz : (kk : Int) < (l.length : Int) := by omega
      obtain ⟨f, hf⟩ : ∃ f, f = l.getD kk dTp := ⟨_, rfl⟩
      rw [← hf] at q0 q1 q2 q3 q4 q5 q6 q7 q8 q9 q10 q11 hr1
      have HM := Lk.mk (show f ∈ l by rw [hf]; exact getD_mem _ hlt)
      have HF := Lk.mk hf
      have hq := Lk.mk (HP.out wr f A1 c1 HM.out hr1 HB.out)
      unfold stCells at hq
      generalize hst : tSt f = x at *
      clear hf hc1 hr1 hst
      obtain ⟨k0, p0, g0, f0, d0, s0, v0, v1, v2, v3, o0⟩ := x
      dsimp only at q0 q1 q2 q3 q4 q5 q6 q7 q8 q9 q10 q11 hq
      cases hpx : p f with
      | true =>
        rw [hpx] at hq
        have HPX := Lk.mk hpx
        clear hpx
        go_wp2_with (go_at_fn g; (with_reducible refine hq.out.mono ?_); rintro e w' ⟨rfl, hb⟩)
        go_ret
        refine ⟨⟨_, rfl, ?_⟩, below_then HB.out HB.out.size hb⟩
        have : l.any p = true := List.any_eq_true.2 ⟨f, HM.out, HPX.out⟩
        rw [this]; simp
      | false =>
        rw [hpx] at hq
        have HPX := Lk.mk hpx
        clear hpx
        go_wp2_with (go_at_fn g; (with_reducible refine hq.out.mono ?_); rintro e w' ⟨rfl, hb⟩)
        go_roundg (l.length - (kk + 1))
        case measure => omega
        case rel =>
          refine ⟨kk + 1, by omega, by omega, by go_num, ⟨fun j hj => ?_⟩, ⟨below_then HB.out HB.out.size hb⟩⟩
          by_cases e : j = kk
          · subst e; rw [← HF.out]; exact HPX.out
          · exact HN.out j (by omega)
    · have hltz : ¬ (kk : Int) < (l.length : Int) := by omega
      obtain rfl : kk = l.length := by omega
      go_wp2
      go_ret
      refine ⟨⟨_, rfl, ?_⟩, HB.out⟩
      have : l.any p = false := by
        rw [List.any_eq_false]
        intro x hx
        obtain ⟨j, hj, rfl⟩ := List.getElem_of_mem hx
        have := HN.out j hj
        rw [List.getD_eq_getElem?_getD, List.getElem?_eq_getElem hj] at this
        simpa using this
      rw [this]; simp
set_option maxRecDepth 100000 in
set_option maxHeartbeats 2000000 in
theorem contains_steps (A : Option Addr) (c : Nat) (l : List Tp) (p : Tp → Bool) (g : Nat) (lb : Array Value) (w : World) (eg : ∀ args w, (callFunc g args).run Tryd.prog w = .ok (.enter g args) w) (hr : kSt.C w A l.length l)
    (hp : ∀ W t A1 c1, t ∈ l → ReadsInt W .i64 A1 (tSl t).length (tSl t) → Below w.heap.size w W → Calls Tryd.prog g (#[.agg (stCells (tSt t) A1 (tSl t).length c1)] ++ lb) W fun e W' => e = .returned (.bool (p t)) ∧ Below W.heap.size W W') :
    Calls Tryd.prog 37 #[.slice A l.length c, .func (.func g) #[] lb] w fun e w' => e = .returned (.bool (l.any p)) ∧ Below w.heap.size w w' := by
  have HI := Lk.mk (index_steps A c l p g lb w eg hr hp)
  clear hr hp
  generalize l.any p = r at *
  go_enter Tryd.func37, Tryd.ntmps37
  go_wp2_with (go_at_call 66; (with_reducible refine (HI.out).mono ?_); rintro e w' ⟨⟨j, rfl, hj⟩, hb⟩; have HJ := Lk.mk hj; clear hj)
  all_goals go_ret
  all_goals exact ⟨ret_bool (by rw [← HJ.out]), hb⟩
/-- a step may be (its row's place plays no part) -/
theorem zero_ABc (c : UInt8) (y z : Sx) (hx : y.x = z.x) (hn : y.n = z.n) : (zero y c).x = (zero z c).x ∧ (zero y c).n = (zero z c).n := by
  obtain ⟨x, A, n, q⟩ := y
  obtain ⟨x', A', n', q'⟩ := z
  dsimp only at hx hn
  subst hx
  subst hn
  unfold zero
  repeat' split
  all_goals exact ⟨rfl, rfl⟩
theorem fold_ABc : ∀ (l : List UInt8) (y z : Sx), y.x = z.x → y.n = z.n → (l.foldl zero y).x = (l.foldl zero z).x ∧ (l.foldl zero y).n = (l.foldl zero z).n
  | [], _, _, hx, hn => ⟨hx, hn⟩
  | c :: l, y, z, hx, hn => fold_ABc l (zero y c) (zero z c) (zero_ABc c y z hx hn).1 (zero_ABc c y z hx hn).2
def stepM (x : St) (l : List Int) : Bool := stepB x none l 0
theorem stepB_M (x : St) (A : Option Addr) (c : Nat) (l : List Int) : stepB x A l c = stepM x l := by
  unfold stepM stepB bareB bareOf
  obtain ⟨h1, h2⟩ := fold_ABc (fK x.k).data.toList { x := { x with k := 0, p := 0 }, A := A, n := l.length, c := c } { x := { x with k := 0, p := 0 }, A := none, n := l.length, c := 0 } rfl rfl
  dsimp only
  rw [h1, h2]
set_option maxRecDepth 100000 in
set_option maxHeartbeats 8000000 in
theorem stepLit_any (x : St) (A : Option Addr) (c : Nat) (l : List Int) (w : World) (hx : StIn x) (hr : ReadsInt w .i64 A l.length l) :
    Calls Tryd.prog 38 #[.agg (stCells x A l.length c)] w fun e w' => e = .returned (.bool (!(stepM x l))) ∧ Below w.heap.size w w' := by
  have HB0 := Lk.mk (below_alloc (Below.refl w.heap.size w) (.cells (stCells x A l.length c) 46))
  have HS := Lk.mk (fun W (hb : Below w.heap.size w W) => step_any x A c l W hx (hr.below hb))
  have HBX := Lk.mk (show BoxS (w.alloc (.cells (stCells x A l.length c) 46)) w.heap.size ⟨x, A, l.length, c⟩ from blk_new w _)
  rw [stepB_M] at HS
  clear hr hx
  generalize stepM x l = b at *
  obtain ⟨⟨b0, b1, b2, b3, b4, b5⟩, b6, b7, b8, b9, b10, b11⟩ := box_cells HBX.out
  obtain ⟨k0, p, g, f, d, s, v0, v1, v2, v3, o⟩ := x
  unfold stCells at *
  dsimp only at *
  go_enter Tryd.func38, Tryd.ntmps38
  go_wp2_with (go_at_call 32; (with_reducible refine (HS.out _ HB0.out).mono ?_); rintro e w1 ⟨rfl, hb⟩; have HB := Lk.mk (below_then HB0.out HB0.out.size hb); clear hb)
  go_ret
  exact ⟨rfl, HB.out⟩
structure TpIn (t : Tp) : Prop where
  i : StIn (tSt t)
  o : 0 ≤ (tSt t).o ∧ (tSt t).o ≤ 255
def stepT (t : Tp) : Bool := stepM (tSt t) (tSl t)
set_option maxRecDepth 100000 in
set_option maxHeartbeats 2000000 in
theorem sStep_any (A : Option Addr) (c : Nat) (l : List Tp) (w : World) (hr : kSt.C w A l.length l) (hi : ∀ t ∈ l, TpIn t) :
    Calls Tryd.prog 20 #[.slice A l.length c] w fun e w' => e = .returned (.bool (l.all stepT)) ∧ Below w.heap.size w w' := by
  have HC := Lk.mk (contains_steps A c l (fun t => !(stepT t)) 38 #[] w (enters_of Tryd.func38 (by kernel_rfl) rfl) hr
    (fun W t A1 c1 ht hr1 _ => stepLit_any (tSt t) A1 c1 (tSl t) W (hi t ht).i hr1))
  have H := Lk.mk (show l.all stepT = !(l.any fun t => !(stepT t)) from by rw [List.all_eq_not_any_not])
  clear hr hi
  generalize l.all stepT = r at *
  generalize (l.any fun t => !(stepT t)) = q at *
  go_enter Tryd.func20, Tryd.ntmps20
  go_wp2_with (go_at_call 37; (with_reducible refine (HC.out).mono ?_); rintro e w' ⟨rfl, hb⟩)
  go_ret
  exact ⟨ret_bool (by rw [H.out]), hb⟩
end Go.Proofs.YtpnklpjjbpheeaaDoor
