/-
  The walks of a mover's raise and frame; conditions: the arena and the table read as told.
-/
import Derived.Test.YtcepafllgjnngaaDoorK4
import Derived.Test.YtcepafllgjnngaaDoorSa
import Derived.Test.YtcepafllgjnngaaDoorLa
namespace Go.Proofs.YtcepafllgjnngaaDoor
open Go.RowKit Go.Proofs.YtcepafllgjnngaaDoorW.PrintWords

/-- the place of a raised word -/
theorem rz_one {ws : List Int} {a : Nat} {x b : Int} (h : a < ws.length) (hx : ws.getD a 0 = x) (h0 : ¬ x = 0) : putW ws a [x + b] = Mv.rz b ws a := by
  unfold Mv.rz
  rw [hx, if_neg h0]
  unfold putW
  apply List.ext_getElem?
  intro j
  simp only [List.getElem?_append, List.length_take, Nat.min_eq_left (Nat.le_of_lt h), List.getElem?_take, List.getElem?_set, List.getElem?_drop, List.length_cons, List.length_nil]
  by_cases h1 : j < a
  · rw [if_pos h1, if_pos h1, if_neg (by omega)]
  · by_cases h2 : j = a
    · subst h2
      rw [if_neg h1, if_pos (by omega), if_pos rfl, if_pos h, Nat.sub_self]; rfl
    · rw [if_neg h1, if_neg (by omega), if_neg (fun e => h2 e.symm)]
      congr 1; omega
theorem word_in2 {w : World} {g b : Nat} {ws : List Int} (h : ArB w g b ws) (k : Nat) : 0 ≤ ws.getD k 0 ∧ ws.getD k 0 < 18446744073709551616 := by
  rw [List.getD_eq_getElem?_getD]
  cases hk : ws[k]? with
  | none => exact ⟨by decide, by decide⟩
  | some x => exact h.words x (List.mem_of_getElem? hk)
theorem wrap_add {x y : Int} (h1 : 0 ≤ x + y) (h2 : x + y < 18446744073709551616) (h3 : -1099511627776 ≤ y) (h4 : y ≤ 1099511627776) : IntKind.u64.wrap (x + IntKind.u64.wrap y) = x + y := by
  have e : ∀ z : Int, IntKind.u64.wrap z = z % 18446744073709551616 := fun z => by unfold IntKind.wrap; rfl
  rw [e, e]
  omega
set_option maxRecDepth 100000 in
set_option maxHeartbeats 2000000 in
theorem raise_any (g b : Nat) (ws : List Int) (p : Value) (by_ : Int) (a : Nat) (w : World) (h : ArB w g b ws) (ha : a < ws.length) (hb1 : -1099511627776 ≤ by_ ∧ by_ ≤ 1099511627776) (hg : ws.getD a 0 = 0 ∨ (0 ≤ ws.getD a 0 + by_ ∧ ws.getD a 0 ≤ 4611686018427387904)) :
    Calls Tryd.prog 134 #[.agg #[.pointer (some ⟨g, 0, none⟩), p, .int .i64 by_], .int .i64 a] w fun e w' => e = .returned (.tuple #[]) ∧ ArB w' g b (Mv.rz by_ ws a) ∧ KeepW b w w' := by
  have hx := word_in2 h a
  have h0 := below_alloc (Below.refl w.heap.size w) (.cells #[.pointer (some ⟨g, 0, none⟩), p, .int .i64 by_] 150)
  have HL := Lk.mk (load_ok g b ws a _ (h.below h0) ha)
  have HM0 := Lk.mk (blk_new w (.cells #[.pointer (some ⟨g, 0, none⟩), p, .int .i64 by_] 150))
  have H0 := Lk.mk h0
  have HA := Lk.mk h
  obtain ⟨m0, m1, m2, _, _, _⟩ := cells3 HM0.out
  generalize hxx : ws.getD a 0 = x at *
  by_cases hx0 : x = 0
  · have hr : Mv.rz by_ ws a = ws := by unfold Mv.rz; rw [hxx, if_pos hx0]
    rw [hr]
    subst hx0
    clear h h0 hg hr
    go_enter Tryd.func134, Tryd.ntmps134
    go_wp2_with (first
      | (go_at_call 39; (with_reducible refine (HL.out).mono ?_); rintro e w1 ⟨rfl, hb⟩; have HB := Lk.mk (below_then H0.out H0.out.size hb); clear hb))
    simp [bodyPost, results, Tryd.results134]
    exact ⟨HA.out.below HB.out, KeepW.of_below HB.out b⟩
  · have hg' := hg.resolve_left hx0
    have hwr : IntKind.u64.wrap (x + IntKind.u64.wrap by_) = x + by_ := wrap_add (by omega) (by omega) hb1.1 hb1.2
    have HST := Lk.mk (show ∀ W, Below w.heap.size w W → Calls Tryd.prog 22 #[.pointer (some ⟨g, 0, none⟩), .int .i64 a, .slice (some ⟨W.heap.size, 0, none⟩) 1 1] (W.alloc (.cells #[.int .u64 (x + by_)] 23)) fun e w' => e = .returned (.int .i64 0) ∧ ArB w' g b (Mv.rz by_ ws a) ∧ KeepW b w w' from fun W hb => by
      have h1 := below_alloc (Below.refl W.heap.size W) (.cells #[.int .u64 (x + by_)] 23)
      have hr1 : ReadsInt (W.alloc (.cells #[.int .u64 (x + by_)] 23)) .u64 (some ⟨W.heap.size, 0, none⟩) ([x + by_] : List Int).length [x + by_] := own_reads' (own_lit W W.heap.size 23 .u64 [x + by_] (Nat.le_refl _) (by simp))
      have := store_ok g b ws a (some ⟨W.heap.size, 0, none⟩) 1 [x + by_] _ ((h.below hb).below h1) hr1 (by
        intro y hy
        obtain rfl : y = x + by_ := by simpa using hy
        omega) (by simp; omega)
      rw [rz_one ha hxx hx0] at this
      exact this.mono fun e w' ⟨he, ha, hk⟩ => ⟨he, ha, (KeepW.of_below hb b).trans ((KeepW.of_below h1 b).trans hk)⟩)
    have hxb : (x != 0) = true := bne_iff_ne.2 hx0
    clear h h0 hg hx0
    go_enter Tryd.func134, Tryd.ntmps134
    go_wp2_with (first
      | (go_at_call 39; (with_reducible refine (HL.out).mono ?_); rintro e w1 ⟨rfl, hb⟩; have HB := Lk.mk (below_then H0.out H0.out.size hb); have HM1 := Lk.mk (blk_below HM0.out hb); obtain ⟨n0, n1, n2, _, _, _⟩ := cells3 HM1.out; clear hb)
      | (go_at_call 22; (with_reducible refine (HST.out _ HB.out).mono ?_); rintro e w2 ⟨rfl, ha2, hk2⟩; have HA2 := Lk.mk ha2; have HK2 := Lk.mk hk2; clear ha2 hk2))
    simp [bodyPost, results, Tryd.results134]
    exact ⟨HA2.out, HK2.out⟩
end Go.Proofs.YtcepafllgjnngaaDoor
