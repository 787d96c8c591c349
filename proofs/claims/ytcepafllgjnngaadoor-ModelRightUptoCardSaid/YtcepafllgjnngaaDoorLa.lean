/-
  The walks of slots.word and slots.Put; conditions: what is handed in reads as told.
-/
import Derived.Test.YtcepafllgjnngaaDoorK2
namespace Go.Proofs.YtcepafllgjnngaaDoor
open Go.RowKit Go.Proofs.YtcepafllgjnngaaDoorW.PrintWords

theorem own_stab {w : World} {base n b : Nat} {e : TypeId} {v : Value} {xs : List Value} (h : w.ownsRow base e 1 v n xs) (hb : b < base) : Stab b (fun W => W.ownsRow base e 1 v n xs) w := by
  intro W k
  refine own_move h (fun j hj => k.block j ?_ ?_)
  · rcases h.2 with ⟨rfl, _⟩ | ⟨g, cap, cur, rfl, hg, hh, _⟩
    · cases hj
    · injection hj with hj
      subst hj
      exact blk_lt hh
  · have := own_base h j hj
    omega
def vlV (v : Sl.Vl) : Value := .agg #[.int .u8 v.1, .int .u64 v.2.1, .int .i64 v.2.2.1, .int .i64 v.2.2.2]
theorem addr_nn {sz : Int → Int} {l : List Sl.Fr} {d s : Int} (h : Sl.addrOk sz l d s = true) (hz : ∀ f, sz f ≤ 1000) : 0 ≤ (l.getD d.toNat Sl.dFr).1 + 2 + s ∧ (l.getD d.toNat Sl.dFr).1 + 2 + s ≤ 1099511628778 := by
  obtain ⟨_, _, h2, h3⟩ := addrOk_true h
  have h4 := sizeS_in h2 h3
  have h5 := hz (l.getD d.toNat Sl.dFr).2.1
  omega
theorem cells4 {w : World} {g : Nat} {t : TypeId} {a b c d : Value} (h : w.heap[g]? = some (.cells #[a, b, c, d] t (0, 0))) : w.cell? ⟨g, 0, none⟩ = some a ∧ w.cell? ⟨g, 1, none⟩ = some b ∧ w.cell? ⟨g, 2, none⟩ = some c ∧ w.cell? ⟨g, 3, none⟩ = some d :=
  ⟨by rw [blk_cell h 0]; rfl, by rw [blk_cell h 1]; rfl, by rw [blk_cell h 2]; rfl, by rw [blk_cell h 3]; rfl⟩
end Go.Proofs.YtcepafllgjnngaaDoor
