/-
  Laws of the model's float operations, for any program: what each comes to where it is valid, and where it is not.
-/
import Derived.Test.YtcepafllgjnngaaQ4
import Derived.WalkKit
import Derived.WalkSpells
import Derived.WalkLawsBesides
import Derived.Laws.FloatArith
namespace Go.Proofs.Fl
open Go.RowKit

def nanOf (w : World) (q : Question) : Nat := q.cut (w.tape w.drawn q)
section
variable {P : Program} (w : World)
theorem run_float_invalid (op : BinOp) (t : TypeId) (x y : Nat) (h : floatBits op .f64 x y = none) (ho : op = .add ∨ op = .sub ∨ op = .mul ∨ op = .quo) :
    (binOp op t (.float .f64 x) (.float .f64 y)).run P w = .ok (.float .f64 (nanOf w (.nanBits .f64 x y))) w.drew := by
  unfold floatBits at h
  rcases ho with rfl | rfl | rfl | rfl <;> simp only at h <;> simp [binOp, Op.floatArith, h, nanOf, Question.forced] <;> rfl
theorem nan_cls (w : World) (x y : Nat) : FlPlain.cls (nanOf w (.nanBits .f64 x y)) = 1 ∧ nanOf w (.nanBits .f64 x y) < 18446744073709551616 := by
  unfold nanOf
  generalize w.tape w.drawn _ = t
  have e : Question.cut (.nanBits .f64 x y) t = (t % 2) * 9223372036854775808 + 9218868437227405312 + 1 + (t / 2) % 4503599627370495 := by
    simp [Question.cut]
  rw [e]
  have hf : (t / 2) % 4503599627370495 < 4503599627370495 := Nat.mod_lt _ (by omega)
  have hs : t % 2 = 0 ∨ t % 2 = 1 := by omega
  generalize (t / 2) % 4503599627370495 = f at *
  generalize t % 2 = s at *
  have h : s * 9223372036854775808 + 9218868437227405312 + 1 + f < 18446744073709551616 := by omega
  refine ⟨(FlPlain.cls1 h).2 ?_, h⟩
  unfold FlPlain.rung
  omega
end
end Go.Proofs.Fl
