/-
  The walk of frame.Push; conditions: the arena and the table read as told.
-/
import Derived.Test.YtbikdngpannekaaDoorDd
namespace Go.Proofs.YtbikdngpannekaaDoor
open Go.RowKit Go.Proofs.YtbikdngpannekaaDoorW.PrintWords

/-- the words behind a push -/
def pushW (ws : List Int) (base n : Nat) (link f : Int) : List Int := putW (putW ws base (List.replicate n 0)) base [linkW link, f + 1]
set_option maxRecDepth 100000 in
set_option maxHeartbeats 2000000 in
theorem push_ok (g b : Nat) (ws : List Int) (p : Value) (ent : List (Int × (List Int × List Int))) (lo sp n base : Nat) (f link : Int) (w : World) (h : ArB w g b ws) (ht : TblOr w p ent) (he : EntIn ent)
    (hn : tWords ent f = n) (h2 : 2 ≤ n) (hf : 0 ≤ f ∧ f ≤ 1000000) (hl : -1 ≤ link ∧ link < ws.length) (hsp : sp ≤ ws.length) (hlo : lo + n ≤ sp) (hb : base + n = sp) :
    Calls Tryd.prog 31 #[.pointer (some ⟨g, 0, none⟩), p, .int .i64 lo, .int .i64 sp, .int .i64 f, .int .i64 link] w fun e w' => e = .returned (.tuple #[.int .i64 base, .int .i64 0]) ∧ ArB w' g b (pushW ws base n link f) ∧ KeepW b w w' := by
  have hlen := h.len
  have HTW := Lk.mk (hn ▸ words_any p ent f w ht (fun e hm => ⟨by have := (he e hm).1; omega, by have := (he e hm).2; omega⟩))
  have HW := Lk.mk (fun W (hb : Below w.heap.size w W) => awords_any g b ws W (h.below hb))
  have HZ := Lk.mk (zero_some g b ws base n w h (by omega) (by omega))
  have hzl : (putW ws base (List.replicate n 0)).length = ws.length := putW_length _ _ _ (by rw [List.length_replicate]; omega)
  have hlw : linkW link = link + 1 := by unfold linkW; rw [if_neg (by omega)]
  have HLW := Lk.mk hlw
  have HWd := Lk.mk (fun W => hlw ▸ word_any link W (by omega))
  have HS := Lk.mk (show ∀ W, ArB W g b (putW ws base (List.replicate n 0)) → Calls Tryd.prog 61 #[.pointer (some ⟨g, 0, none⟩), .int .i64 base, .slice (some ⟨W.heap.size, 0, none⟩) 2 2] (W.alloc (.cells #[.int .u64 (link + 1), .int .u64 (f + 1)] 25)) fun e w' => e = .returned (.int .i64 0) ∧ ArB w' g b (pushW ws base n link f) ∧ KeepW b W w' from fun W hA => by
    have h0 := below_alloc (Below.refl W.heap.size W) (.cells #[.int .u64 (link + 1), .int .u64 (f + 1)] 25)
    have hr : ReadsInt (W.alloc (.cells #[.int .u64 (link + 1), .int .u64 (f + 1)] 25)) .u64 (some ⟨W.heap.size, 0, none⟩) ([linkW link, f + 1] : List Int).length [linkW link, f + 1] := by
      rw [hlw]
      exact own_reads' (own_lit W W.heap.size 25 .u64 [link + 1, f + 1] (Nat.le_refl _) (by simp))
    have := store_ok g b (putW ws base (List.replicate n 0)) base (some ⟨W.heap.size, 0, none⟩) 2 [linkW link, f + 1] _ (hA.below h0) hr (by
      intro x hx
      rw [hlw] at hx
      simp at hx
      omega) (by rw [hzl]; simp; omega)
    exact this.mono fun e w' ⟨he, ha, hk⟩ => ⟨he, ha, (KeepW.of_below h0 b).trans hk⟩)
  have hs1 : (sp : Int) - (n : Int) = (base : Int) := by omega
  have hs2 : (n : Int) ≤ (sp : Int) - (lo : Int) := by omega
  have hlo2 : (lo : Int) ≤ (sp : Int) := by omega
  have hlo0 : ¬ ((lo : Int) < 0) := by omega
  clear h ht he hn hzl hlw
  go_enter Tryd.func31, Tryd.ntmps31
  go_wp2_with (first
    | (go_at_call 76; (with_reducible refine (HTW.out).mono ?_); rintro e w' ⟨rfl, hw⟩; obtain rfl := hw.symm; clear hw)
    | (go_at_call 74; (with_reducible refine (HW.out _ (Below.refl _ _)).mono ?_); rintro e w' ⟨rfl, rfl⟩)
    | (go_at_call 77; (with_reducible refine (HZ.out).mono ?_); rintro e w1 ⟨rfl, ha, hk⟩; have HA1 := Lk.mk ha; have HK1 := Lk.mk hk; clear ha hk)
    | (go_at_call 78; (with_reducible refine (HWd.out _).mono ?_); rintro e w' ⟨rfl, rfl⟩)
    | (go_at_call 61; (with_reducible refine (HS.out _ HA1.out).mono ?_); rintro e w2 ⟨rfl, ha, hk⟩; have HA2 := Lk.mk ha; have HK2 := Lk.mk (HK1.out.trans hk); clear ha hk))
  all_goals go_ret2
  all_goals exact ⟨rfl, HA2.out, HK2.out⟩
end Go.Proofs.YtbikdngpannekaaDoor
