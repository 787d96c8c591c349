/-
  The walks of slots.word and slots.Put; conditions: what is handed in reads as told.
-/
import Derived.Test.YtbikdngpannekaaDoorDe
import Derived.Test.YtbikdngpannekaaDoorCb
import Derived.Test.YtbikdngpannekaaDoorCe
namespace Go.Proofs.YtbikdngpannekaaDoor
open Go.RowKit Go.Proofs.YtbikdngpannekaaDoorW.PrintWords

theorem own_stab {w : World} {base n b : Nat} {e : TypeId} {v : Value} {xs : List Value} (h : w.ownsRow base e 1 v n xs) (hb : b < base) : Stab b (fun W => W.ownsRow base e 1 v n xs) w := by
  intro W k
  refine own_move h (fun j hj => k.block j ?_ ?_)
  · rcases h.2 with ⟨rfl, _⟩ | ⟨g, cap, cur, rfl, hg, hh, _⟩
    · cases hj
    · injection hj with hj
      subst hj
      exact blk_lt hh
  · have := own_base h j hj
    omega
def vlV (v : Sl.Vl) : Value := .agg #[.int .u8 v.1, .int .u64 v.2.1, .int .i64 v.2.2.1, .int .i64 v.2.2.2]
theorem addr_nn {sz : Int → Int} {l : List Sl.Fr} {d s : Int} (h : Sl.addrOk sz l d s = true) (hz : ∀ f, sz f ≤ 1000) : 0 ≤ (l.getD d.toNat Sl.dFr).1 + 2 + s ∧ (l.getD d.toNat Sl.dFr).1 + 2 + s ≤ 1099511628778 := by
  obtain ⟨_, _, h2, h3⟩ := addrOk_true h
  have h4 := sizeS_in h2 h3
  have h5 := hz (l.getD d.toNat Sl.dFr).2.1
  omega
theorem cells4 {w : World} {g : Nat} {t : TypeId} {a b c d : Value} (h : w.heap[g]? = some (.cells #[a, b, c, d] t (0, 0))) : w.cell? ⟨g, 0, none⟩ = some a ∧ w.cell? ⟨g, 1, none⟩ = some b ∧ w.cell? ⟨g, 2, none⟩ = some c ∧ w.cell? ⟨g, 3, none⟩ = some d :=
  ⟨by rw [blk_cell h 0]; rfl, by rw [blk_cell h 1]; rfl, by rw [blk_cell h 2]; rfl, by rw [blk_cell h 3]; rfl⟩
set_option maxRecDepth 100000 in
set_option maxHeartbeats 2000000 in
theorem word_ex (p : Value) (ent : List (Int × (List Int × List Int))) (A : Option Addr) (c : Nat) (l : List Sl.Fr) (d : Int) (v : Sl.Vl) (w : World) (h : TblOr w p ent) (hr : kFr.C w A l.length l) (he : EntIn ent) (hv : VlIn v) :
    Calls Tryd.prog 92 #[p, .slice A l.length c, .int .i64 d, .agg #[.int .u8 v.1, .int .u64 v.2.1, .int .i64 v.2.2.1, .int .i64 v.2.2.2]] w fun e w' => ∃ x n : Int, (0 ≤ x ∧ x < 18446744073709551616) ∧ (0 ≤ n ∧ n ≤ 20) ∧ e = .returned (.tuple #[.int .u64 x, .int .i64 n]) ∧ Below w.heap.size w w' := by
  obtain ⟨k, x, vd, vs⟩ := v
  obtain ⟨v0, v1, v2, v3⟩ := hv
  dsimp only at v0 v1 v2 v3 ⊢
  have h0 : Below w.heap.size w (w.alloc (.cells #[.int .u8 k, .int .u64 x, .int .i64 vd, .int .i64 vs] 27)) := below_alloc (Below.refl _ _) _
  have H0 := Lk.mk h0
  by_cases hk : k = 2
  · subst hk
    have hsz : ∀ f, tSize ent f ≤ 1000 := fun f => (tSize_in he f).2
    cases ho : Sl.addrOk (tSize ent) l vd vs with
    | true =>
      have HA := Lk.mk (address_ok p ent A c l vd vs _ (h.below h0) (Kd.C_below hr h0) he ho)
      have ha := addr_nn ho hsz
      clear h hr he h0 ho hsz
      generalize (l.getD vd.toNat Sl.dFr).1 + 2 + vs = at_ at *
      go_enter Tryd.func92, Tryd.ntmps92
      go_wp2_with (go_at_call 20; (with_reducible refine (HA.out).mono ?_); rintro e w1 ⟨rfl, hb⟩; obtain ⟨c0, c1, c2, c3⟩ := cells4 (blk_below (blk_new w (.cells #[.int .u8 2, .int .u64 x, .int .i64 vd, .int .i64 vs] 27)) hb); have HB := Lk.mk (below_then H0.out H0.out.size hb); clear hb)
      all_goals go_ret2
      all_goals exact ⟨_, _, by omega, by omega, rfl, HB.out⟩
    | false =>
      have HA := Lk.mk (address_bad p ent A c l vd vs _ (h.below h0) (Kd.C_below hr h0) he ho)
      clear h hr he h0 ho hsz
      go_enter Tryd.func92, Tryd.ntmps92
      go_wp2_with (go_at_call 20; (with_reducible refine (HA.out).mono ?_); rintro e w1 ⟨rfl, hb⟩; obtain ⟨c0, c1, c2, c3⟩ := cells4 (blk_below (blk_new w (.cells #[.int .u8 2, .int .u64 x, .int .i64 vd, .int .i64 vs] 27)) hb); have HB := Lk.mk (below_then H0.out H0.out.size hb); clear hb)
      all_goals go_ret2
      all_goals exact ⟨_, _, by omega, by omega, rfl, HB.out⟩
  · clear h hr he h0
    go_enter Tryd.func92, Tryd.ntmps92
    go_wp2
    go_ret2
    exact ⟨_, _, by omega, by omega, rfl, H0.out⟩
end Go.Proofs.YtbikdngpannekaaDoor
