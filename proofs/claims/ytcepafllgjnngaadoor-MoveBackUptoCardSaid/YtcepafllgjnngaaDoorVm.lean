/-
  The law MoveBack. Conditions: the table of deBruijn stands; the arguments read as told.
-/
import Derived.Test.YtcepafllgjnngaaDoorVl
import Derived.Test.YtcepafllgjnngaaDoorEe
namespace Go.Proofs.YtcepafllgjnngaaDoor
open Go.RowKit Go.Proofs.YtcepafllgjnngaaDoorW.PrintWords

theorem lawOfMoveBack (V : Option Addr) (c0 : Nat) (ws : List Int) (T : Option Addr) (ct : Nat) (t : List (Int × List Int)) (x : Int × (Int × Int)) (lo size : Int) (w : World) (hz : ReadsInt w .u64 V ws.length ws) (hzw : Bm.Words ws) (_ : ws.length ≤ c0) (_ : ws.length ≤ 1048576) (ht : FnC w T t.length t) (hI : FnsIn t) (_ : t.length ≤ 1048576) (hb : ∀ f ∈ t, f.2.length ≤ 1048576) (hx : StkIn x) (_ : -9223372036854775808 ≤ lo ∧ lo ≤ 9223372036854775807) (hsz : -9223372036854775808 ≤ size ∧ size ≤ 9223372036854775807) (hT : Tab w) :
    Calls Tryd.prog 8 #[.slice V ws.length c0, .slice T t.length ct, .agg #[.int .i64 x.1, .int .i64 x.2.1, .int .i64 x.2.2], .int .i64 lo, .int .i64 size] w fun e w' => e = .returned (.bool true) ∧ Below w.heap.size w w' := by
  have hI' : FnsOk t := fnsOk_of hI hb (Nat.le_refl _)
  by_cases h1 : newOk t = true
  · by_cases h2 : 256 < ws.length
    · exact mb_early V c0 ws T ct t x.1 x.2.1 x.2.2 lo size w hz ht hI' hT (.inr (.inl h2))
    · by_cases h3 : greatL t = true
      · exact mb_early V c0 ws T ct t x.1 x.2.1 x.2.2 lo size w hz ht hI' hT (.inr (.inr h3))
      · by_cases hok : ToOk (putW zw 0 ws) (t.map entryOf) x lo size
        · obtain ⟨l0, s0, p0, a, bz, k, rfl, rfl, rfl, _, hN⟩ := toN_of hok
          exact mb_good V c0 ws T ct t l0 s0 p0 a bz k w hz hzw ht hI' hb hT h1 (by omega) (by simpa using h3) hN
        · exact mb_bad V c0 ws T ct t x.1 x.2.1 x.2.2 lo size w hz hzw ht hI' hx.2.1 hsz hT h1 (by omega) (by simpa using h3) hok
  · exact mb_early V c0 ws T ct t x.1 x.2.1 x.2.2 lo size w hz ht hI' hT (.inl (by simpa using h1))
end Go.Proofs.YtcepafllgjnngaaDoor
