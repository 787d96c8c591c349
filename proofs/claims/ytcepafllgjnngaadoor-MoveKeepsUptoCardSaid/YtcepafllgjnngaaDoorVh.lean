/-
  move.To whatever the stack is. Conditions: what is handed in reads as told.
-/
import Derived.Test.YtcepafllgjnngaaDoorVg
namespace Go.Proofs.YtcepafllgjnngaaDoor
open Go.RowKit Go.Proofs.YtcepafllgjnngaaDoorW.PrintWords

theorem framesA_len {ws : List Int} {ent : List (Int × (List Int × List Int))} (he : EntIn ent) (hl : ws.length ≤ 65536) (x : Int × (Int × Int)) : (framesA ws ent x).1.length ≤ 1048576 := by
  cases hm : mayS ws.length x with
  | false => rw [framesA_no hm]; simp
  | true =>
    obtain ⟨lo, size, sp, rfl, h1, h2, h3⟩ := mayS_nat hm
    cases hw : Wk.walk (stp ws ent (lo + size)) (lo + size) sp with
    | none => rw [framesA_none hm hw]; simp
    | some l =>
      rw [framesA_some hm hw]
      dsimp only
      rw [List.length_reverse]
      have := walk_len (stp_says (ws := ws) (hi := lo + size) he).up (lo + size - sp) sp l (Nat.le_refl _) hw
      omega
theorem to_any (g b : Nat) (ws : List Int) (q : Option Addr) (ent : List (Int × (List Int × List Int))) (x : Int × (Int × Int)) (lo size : Int) (w : World) (h : ArB w g b ws) (hS : Stab b (fun W => TblOr W (.pointer q) ent) w) (he : EntIn ent) (hlen : ent.length ≤ 1048576) (hw : ∀ e ∈ ent, Bm.Words e.2.1) (hE : ∀ e ∈ ent, e.2.2.length * 8 ≤ 140737488355328) (hp : PtOk (tPtrs ent) ent) (hx : -9223372036854775808 ≤ x.2.1 ∧ x.2.1 ≤ 9223372036854775807) (hsz : -9223372036854775808 ≤ size ∧ size ≤ 9223372036854775807) :
    Calls Tryd.prog 34 #[.pointer (some ⟨g, 0, none⟩), .pointer q, .agg #[.int .i64 x.1, .int .i64 x.2.1, .int .i64 x.2.2], .int .i64 lo, .int .i64 size] w fun e w' =>
      (ToOk ws ent x lo size ∧ e = .returned (.tuple #[.agg #[.int .i64 (toS x lo size).1, .int .i64 (toS x lo size).2.1, .int .i64 (toS x lo size).2.2], .int .i64 0]) ∧ ArB w' g b (toW (tPtrs ent) ws ent x lo size) ∧ KeepW b w w') ∨
      (¬ ToOk ws ent x lo size ∧ (∃ n : Int, ¬ n = 0 ∧ e = .returned (.tuple #[.agg #[.int .i64 0, .int .i64 0, .int .i64 0], .int .i64 n])) ∧ Below w.heap.size w w') := by
  have hF := framesA_len (ws := ws) he h.len x
  by_cases hok : ToOk ws ent x lo size
  · obtain ⟨l0, s0, p0, a, bz, k, rfl, rfl, rfl, hts, hN⟩ := toN_of hok
    refine (to_good g b ws q ent l0 s0 p0 a bz k w h hS he hlen hw hE hp hF hN).mono ?_
    rintro e w' ⟨h1, h2, h3⟩
    rw [hts]
    exact .inl ⟨hok, h1, h2, h3⟩
  · refine (to_bad g b ws q ent x lo size w h hS.now he hlen hw hx hsz hF hok).mono ?_
    rintro e w' ⟨h1, h2⟩
    exact .inr ⟨hok, h1, h2⟩
end Go.Proofs.YtcepafllgjnngaaDoor
