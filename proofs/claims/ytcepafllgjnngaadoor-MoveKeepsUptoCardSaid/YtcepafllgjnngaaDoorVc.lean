/-
  The row that walk.Frames answers stays; move.must both ways; move.To's way out. Conditions: what is handed in reads as told.
-/
import Derived.Test.YtcepafllgjnngaaDoorVb
import Derived.Test.YtcepafllgjnngaaDoorVa
import Derived.Test.YtcepafllgjnngaaDoorMs
namespace Go.Proofs.YtcepafllgjnngaaDoor
open Go.RowKit Go.Proofs.YtcepafllgjnngaaDoorW.PrintWords

/-- a row of frames that reads as told in every world that keeps the blocks at and above base -/
def OwnC (base : Nat) (A : Option Addr) (l : List Sl.Fr) (w : World) : Prop := ∀ W : World, (∀ k, base ≤ k → k < w.heap.size → W.heap[k]? = w.heap[k]?) → kFr.C W A l.length l
theorem OwnC.now {base : Nat} {A : Option Addr} {l : List Sl.Fr} {w : World} (h : OwnC base A l w) : kFr.C w A l.length l := h w fun _ _ _ => rfl
theorem OwnC.keep {base b : Nat} {A : Option Addr} {l : List Sl.Fr} {w W : World} (h : OwnC base A l w) (hb : b < base) (k : KeepW b w W) : OwnC base A l W := fun X hX => h X fun j h1 h2 => (hX j h1 (by have := k.size; omega)).trans (k.block j h2 (by omega))
theorem OwnC.below {base : Nat} {A : Option Addr} {l : List Sl.Fr} {w W : World} (h : OwnC base A l w) (k : Below w.heap.size w W) : OwnC base A l W := fun X hX => h X fun j h1 h2 => (hX j h1 (by have := k.size; omega)).trans (k.block j h2)
theorem OwnC.set {base q : Nat} {A : Option Addr} {l : List Sl.Fr} {w : World} (h : OwnC base A l w) (hq : q < base) (i : Nat) (v : Value) : OwnC base A l (w.setCell ⟨q, i, none⟩ v) := fun X hX => h X fun j h1 h2 => (hX j h1 (by simpa using h2)).trans (Below.heap_setCell w ⟨q, i, none⟩ v j (by show j ≠ q; omega))
theorem OwnC.nil (base : Nat) (A : Option Addr) (w : World) : OwnC base A [] w := fun W _ => ⟨rfl, by simp, fun h => absurd h (by simp)⟩
theorem reverse_own (v : Value) (l : List Sl.Fr) (base : Nat) (w : World) (hl : l.length ≤ 1000000) (h : kFr.R 79 w base (fun _ => True) v l) (hb : base ≤ w.heap.size) :
    Calls Tryd.prog 80 #[v] w fun e w' => e = .returned (.tuple #[]) ∧ (∃ A c, v = .slice A l.length c ∧ OwnC base A l.reverse w') ∧ ∀ w0, Below base w0 w → Below base w0 w' := by
  by_cases hp : 0 < l.length
  · obtain ⟨g, cap, rfl, hg, _, _⟩ := Kd.R_form h hp
    obtain ⟨arr, hA, h0⟩ := rv_start h hp
    refine (reverse_any g cap arr l w hl hA h0).mono ?_
    rintro e w' ⟨he, hk, arr', i, hA', hv, hi⟩
    refine ⟨he, ⟨_, _, rfl, fun W hW => ?_⟩, fun w0 hb0 => hk.below hb0 hg hb⟩
    rw [List.length_reverse]
    exact kFr_arr ((hW g hg (blk_lt hA')).trans hA') (by rw [List.length_reverse]) hl (rv_end hv hi)
  · have hl0 : l = [] := by cases l with | nil => rfl | cons _ _ => simp at hp
    subst hl0
    refine (reverse_row v [] base w hl h hb).mono ?_
    rintro e w' ⟨he, ⟨A, c, hv, _⟩, hbb⟩
    exact ⟨he, ⟨A, c, hv, OwnC.nil _ _ _⟩, hbb⟩
set_option maxRecDepth 100000 in
set_option maxHeartbeats 2000000 in
theorem frames_own1 (g b : Nat) (ws : List Int) (p : Value) (ent : List (Int × (List Int × List Int))) (lo size sp : Nat) (w : World) (h : ArB w g b ws) (ht : TblOr w p ent) (he : EntIn ent) (hw : lo + size ≤ ws.length) (hsp : sp ≤ lo + size) (hm : mayS ws.length ((lo : Int), ((size : Int), (sp : Int))) = true) :
    Calls Tryd.prog 31 #[.pointer (some ⟨g, 0, none⟩), p, .agg #[.int .i64 lo, .int .i64 size, .int .i64 sp]] w fun e w' => Below w.heap.size w w' ∧ ((∃ l A c, Wk.walk (stp ws ent (lo + size)) (lo + size) sp = some l ∧ e = .returned (.tuple #[.slice A l.length c, .int .i64 0]) ∧ OwnC w.heap.size A l.reverse w') ∨ (Wk.walk (stp ws ent (lo + size)) (lo + size) sp = none ∧ e = .returned (.tuple #[.slice none 0 0, .int .i64 9]))) := by
  have hlen := h.len
  obtain ⟨q, rfl⟩ : ∃ q, p = .pointer q := by rcases ht with ⟨e, _⟩ | ⟨g2, _, _, e, _⟩ <;> exact ⟨_, e⟩
  have H0 := Lk.mk (below_alloc (Below.refl w.heap.size w) (.cells #[.int .i64 lo, .int .i64 size, .int .i64 sp] 41))
  have HX0 := Lk.mk (blk_new w (.cells #[.int .i64 lo, .int .i64 size, .int .i64 sp] 41))
  have hmm := wmay_any g b ws ((lo : Int), ((size : Int), (sp : Int))) _ (h.below H0.out) (by dsimp only; omega)
  rw [hm] at hmm
  have HM := Lk.mk hmm
  have HA := Lk.mk (fun W (hb : Below w.heap.size w W) => all_any g b ws (.pointer q) ent lo size sp W (h.below hb) (ht.below hb) he hw hsp)
  have HLN := Lk.mk (fun l (hl : Wk.walk (stp ws ent (lo + size)) (lo + size) sp = some l) => walk_len (stp_says (ws := ws) (hi := lo + size) he).up (lo + size - sp) sp l (Nat.le_refl _) hl)
  dsimp only at HM
  clear h ht he hmm hm
  generalize Wk.walk (stp ws ent (lo + size)) (lo + size) sp = res at *
  go_enter Tryd.func31, Tryd.ntmps31
  go_wp2_with (first
    | (go_at_call 78; (with_reducible refine (HM.out).mono ?_); rintro e w1 ⟨rfl, hb⟩; obtain ⟨c0, c1, c2, _, _, _⟩ := cells3c (blk_below HX0.out hb); have HB := Lk.mk (below_then H0.out H0.out.size hb); clear hb)
    | (go_at_call 79; (with_reducible refine (HA.out _ HB.out).mono ?_); rintro e w2 ⟨hb, hor⟩; have HB2 := Lk.mk (below_then HB.out HB.out.size hb); have HBb := Lk.mk hb; clear hb; rcases hor with ⟨l, v, hl, rfl, hR⟩ | ⟨hl, rfl⟩)
    | (go_at_call 80; (with_reducible refine (reverse_own v l _ _ (by have := HLN.out l hl; omega) hR HBb.out.size).mono ?_); rintro e w3 ⟨rfl, ⟨A, c, rfl, hC⟩, hbb⟩; have HC := Lk.mk hC; have HB3 := Lk.mk (below_then HB.out HB.out.size (hbb _ HBb.out)); clear hC hbb)
    | (go_at_call 80; (with_reducible refine (reverse_row (.slice none 0 0) [] w2.heap.size _ (by simp) (Kd.R_nil kFr _ _ _ _) (Nat.le_refl _)).mono ?_); rintro e w3 ⟨rfl, _, hbb⟩; have HB3 := Lk.mk (below_then HB2.out HB2.out.size (hbb _ (Below.refl _ _))); clear hbb))
  · go_ret2
    exact ⟨HB3.out, .inl ⟨l, A, c, hl, rfl, fun W hW => HC.out W fun k h1 h2 => hW k (Nat.le_trans HB.out.size h1) h2⟩⟩
  · go_ret2
    exact ⟨HB3.out, .inr ⟨hl, rfl⟩⟩
theorem frames_own (g b : Nat) (ws : List Int) (p : Value) (ent : List (Int × (List Int × List Int))) (x : Int × (Int × Int)) (w : World) (h : ArB w g b ws) (ht : TblOr w p ent) (he : EntIn ent) (hx : -9223372036854775808 ≤ x.2.1 ∧ x.2.1 ≤ 9223372036854775807) :
    Calls Tryd.prog 31 #[.pointer (some ⟨g, 0, none⟩), p, .agg #[.int .i64 x.1, .int .i64 x.2.1, .int .i64 x.2.2]] w fun e w' => Below w.heap.size w w' ∧ ∃ (A : Option Addr) (c : Nat), e = .returned (.tuple #[.slice A (framesA ws ent x).1.length c, .int .i64 (framesA ws ent x).2]) ∧ OwnC w.heap.size A (framesA ws ent x).1 w' := by
  cases hm : mayS ws.length x with
  | false =>
    rw [framesA_no hm]
    refine (frames_bad g b ws p x w h hx hm).mono ?_
    rintro e w' ⟨he, hb⟩
    exact ⟨hb, none, 0, he, OwnC.nil _ _ _⟩
  | true =>
    obtain ⟨lo, size, sp, rfl, h1, h2, h3⟩ := mayS_nat hm
    refine (frames_own1 g b ws p ent lo size sp w h ht he h1 h3 hm).mono ?_
    rintro e w' ⟨hb, ⟨l, A, c, hl, he2, hC⟩ | ⟨hl, he2⟩⟩
    · rw [framesA_some hm hl]
      refine ⟨hb, A, c, ?_, hC⟩
      dsimp only; rw [List.length_reverse]; exact he2
    · rw [framesA_none hm hl]
      exact ⟨hb, none, 0, he2, OwnC.nil _ _ _⟩
theorem vmust_if (r : Bool) (e : Int) (w : World) : Calls Tryd.prog 83 #[.bool r, .int .i64 e] w fun q w' => w' = w ∧ ((r = true ∧ q = .returned (.tuple #[])) ∨ (r = false ∧ q = .panicked (mwrongC e))) := by
  cases r
  · exact (vmust_no e w).mono fun q w' ⟨h1, h2⟩ => ⟨h2, .inr ⟨rfl, h1⟩⟩
  · exact (vmust_ok e w).mono fun q w' ⟨h1, h2⟩ => ⟨h2, .inl ⟨rfl, h1⟩⟩
/-- To's way out: what its named results hold -/
theorem to_out {W : World} {tmps : Array Value} {R : Ending → World → Prop} {u : FrameMode} {v0 v1 v2 n : Int} {g h : Nat} (hu : u = .returning) (hV : W.heap[g]? = some (.cells #[.int .i64 v0, .int .i64 v1, .int .i64 v2] 41 (0, 0))) (hE : W.heap[h]? = some (.cells #[.int .i64 n] 30 (0, 0))) (h6 : tmps[10]?.getD undef = .pointer (some ⟨g, 0, none⟩)) (h7 : tmps[11]?.getD undef = .pointer (some ⟨h, 0, none⟩)) (hR : R (.returned (.tuple #[.agg #[.int .i64 v0, .int .i64 v1, .int .i64 v2], .int .i64 n])) W) :
    Leaves Tryd.prog Tryd.f34 tmps R [] u W := by
  subst hu
  refine ⟨.tuple #[.agg #[.int .i64 v0, .int .i64 v1, .int .i64 v2], .int .i64 n], ?_, hR⟩
  obtain ⟨x0, x1, x2, _, _, _⟩ := cells3 hV
  have hc := blk_cell hE 0
  simp only [List.getElem?_toArray, List.getElem?_cons_zero] at hc
  simp [results, Tryd.results34, h6, h7, asAddr, go_sem, x0, x1, x2, hc, Result.andThen]
end Go.Proofs.YtcepafllgjnngaaDoor
