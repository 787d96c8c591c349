/-
  The walk of float.calc: each operation.
-/
import Derived.Test.YtcepafllgjnngaaQa
namespace Go.Proofs.Ytcepafllgjnngaa
open Go.RowKit Go.Proofs.Fl

structure Lk (p : Prop) : Prop where mk :: (out : p)
theorem fmt64 : FloatKind.f64.format = Ieee.double := rfl
def Got (o : Option Nat) (w : World) (e : Ending) (w' : World) : Prop :=
  ∃ r, e = .returned (.float .f64 r) ∧ r < 18446744073709551616 ∧ FlPlain.fin r = FlPlain.orNan o ∧ (w' = w ∨ w' = w.drew)
theorem got_some {x : Nat} {w : World} (h : x < 18446744073709551616) : Got (some x) w (.returned (.float .f64 x)) w := ⟨x, rfl, h, rfl, .inl rfl⟩
theorem got_nan {x y : Nat} {w : World} : Got none w (.returned (.float .f64 (nanOf w (.nanBits .f64 x y)))) w.drew :=
  ⟨_, rfl, (nan_cls w x y).2, by unfold FlPlain.fin; rw [if_pos (nan_cls w x y).1]; rfl, .inr rfl⟩
theorem width64 : (2 : Nat) ^ Ieee.double.width = 18446744073709551616 := by decide +kernel

set_option maxHeartbeats 400000 in
theorem calc_add (a b : Nat) (w : World) : Calls Try.prog 29 #[.int .u8 1, .float .f64 a, .float .f64 b] w (Got (Ieee.double.add a b) w) := by
  cases h : Ieee.double.add a b with
  | none =>
    have hr := run_float_invalid (P := Try.prog) w .add 43 a b h (.inl rfl)
    go_enter Try.func29, Try.ntmps29
    go_wp2
    go_ret
    exact got_nan
  | some r =>
    have hr := run_float_arith (P := Try.prog) w .add 43 .f64 a b r h
    have hl := Ieee.Format.add_lt _ h
    go_enter Try.func29, Try.ntmps29
    go_wp2
    go_ret
    exact got_some (by rw [← width64]; exact hl)
set_option maxHeartbeats 400000 in
theorem calc_sub (a b : Nat) (w : World) : Calls Try.prog 29 #[.int .u8 2, .float .f64 a, .float .f64 b] w (Got (Ieee.double.sub a b) w) := by
  cases h : Ieee.double.sub a b with
  | none =>
    have hr := run_float_invalid (P := Try.prog) w .sub 43 a b h (.inr (.inl rfl))
    go_enter Try.func29, Try.ntmps29
    go_wp2
    go_ret
    exact got_nan
  | some r =>
    have hr := run_float_arith (P := Try.prog) w .sub 43 .f64 a b r h
    have hl := Ieee.Format.sub_lt _ h
    go_enter Try.func29, Try.ntmps29
    go_wp2
    go_ret
    exact got_some (by rw [← width64]; exact hl)
set_option maxHeartbeats 400000 in
theorem calc_mul (a b : Nat) (w : World) : Calls Try.prog 29 #[.int .u8 3, .float .f64 a, .float .f64 b] w (Got (Ieee.double.mul a b) w) := by
  cases h : Ieee.double.mul a b with
  | none =>
    have hr := run_float_invalid (P := Try.prog) w .mul 43 a b h (.inr (.inr (.inl rfl)))
    go_enter Try.func29, Try.ntmps29
    go_wp2
    go_ret
    exact got_nan
  | some r =>
    have hr := run_float_arith (P := Try.prog) w .mul 43 .f64 a b r h
    have hl := Ieee.Format.mul_lt _ h
    go_enter Try.func29, Try.ntmps29
    go_wp2
    go_ret
    exact got_some (by rw [← width64]; exact hl)
set_option maxHeartbeats 400000 in
theorem calc_div (a b : Nat) (w : World) : Calls Try.prog 29 #[.int .u8 4, .float .f64 a, .float .f64 b] w (Got (Ieee.double.div a b) w) := by
  cases h : Ieee.double.div a b with
  | none =>
    have hr := run_float_invalid (P := Try.prog) w .quo 43 a b h (.inr (.inr (.inr rfl)))
    go_enter Try.func29, Try.ntmps29
    go_wp2
    go_ret
    exact got_nan
  | some r =>
    have hr := run_float_arith (P := Try.prog) w .quo 43 .f64 a b r h
    have hl := Ieee.Format.div_lt _ h
    go_enter Try.func29, Try.ntmps29
    go_wp2
    go_ret
    exact got_some (by rw [← width64]; exact hl)
theorem truth_lt (t : Bool) : FlPlain.truth t < 18446744073709551616 := by cases t <;> decide +kernel
set_option maxHeartbeats 400000 in
theorem calc_less (a b : Nat) (w : World) : Calls Try.prog 29 #[.int .u8 5, .float .f64 a, .float .f64 b] w (Got (some (FlPlain.truth (Ieee.double.order a b == some .lt))) w) := by
  have ht := truth_lt (Ieee.double.order a b == some .lt)
  go_enter Try.func29, Try.ntmps29
  go_wp2_with (go_at_call 40; refine (truth_any _ _).mono ?_; rintro e w' ⟨rfl, rfl⟩)
  go_ret
  exact got_some ht
set_option maxHeartbeats 400000 in
theorem calc_same (a b : Nat) (w : World) : Calls Try.prog 29 #[.int .u8 6, .float .f64 a, .float .f64 b] w (Got (some (FlPlain.truth (Ieee.double.order a b == some .eq))) w) := by
  have ht := truth_lt (Ieee.double.order a b == some .eq)
  go_enter Try.func29, Try.ntmps29
  go_wp2_with (go_at_call 40; refine (truth_any _ _).mono ?_; rintro e w' ⟨rfl, rfl⟩)
  go_ret
  exact got_some ht

theorem min_run (P : Program) (ts : Array TypeId) (t : TypeId) (a b : Nat) (w : World) : (Builtin.min_ ts t #[.float .f64 a, .float .f64 b]).run P w =
    match FlPlain.least2 a b with | some r => .ok (.float .f64 r) w | none => .ok (.float .f64 (nanOf w (.nanMinMax .f64 false a b))) w.drew := by
  unfold FlPlain.least2
  simp only [Builtin.min_, List.foldlM_cons, List.foldlM_nil, Builtin.min2, fmt64, FloatKind.decode]
  cases h : FlPlain.D.order a b with
  | none => simp [nanOf, Question.forced]
  | some o => cases o <;> first | (simp; done) | (simp only [Sem.run_bind, Sem.run_pure, Result.andThen_ok]; rfl)
theorem max_run (P : Program) (ts : Array TypeId) (t : TypeId) (a b : Nat) (w : World) : (Builtin.max_ ts t #[.float .f64 a, .float .f64 b]).run P w =
    match FlPlain.most2 a b with | some r => .ok (.float .f64 r) w | none => .ok (.float .f64 (nanOf w (.nanMinMax .f64 true a b))) w.drew := by
  unfold FlPlain.most2
  simp only [Builtin.max_, List.foldlM_cons, List.foldlM_nil, Builtin.max2, fmt64, FloatKind.decode]
  cases h : FlPlain.D.order a b with
  | none => simp [nanOf, Question.forced]
  | some o => cases o <;> first | (simp; done) | (simp only [Sem.run_bind, Sem.run_pure, Result.andThen_ok]; rfl)

theorem nanm_cls (w : World) (m : Bool) (x y : Nat) : FlPlain.cls (nanOf w (.nanMinMax .f64 m x y)) = 1 ∧ nanOf w (.nanMinMax .f64 m x y) < 18446744073709551616 := by
  unfold nanOf
  generalize w.tape w.drawn _ = t
  have e : Question.cut (.nanMinMax .f64 m x y) t = (t % 2) * 9223372036854775808 + 9218868437227405312 + 1 + (t / 2) % 4503599627370495 := by
    simp [Question.cut]
  rw [e]
  have hf : (t / 2) % 4503599627370495 < 4503599627370495 := Nat.mod_lt _ (by omega)
  have hs : t % 2 = 0 ∨ t % 2 = 1 := by omega
  generalize (t / 2) % 4503599627370495 = f at *
  generalize t % 2 = s at *
  have h : s * 9223372036854775808 + 9218868437227405312 + 1 + f < 18446744073709551616 := by omega
  refine ⟨(FlPlain.cls1 h).2 ?_, h⟩
  unfold FlPlain.rung
  omega
theorem got_nanm {m : Bool} {x y : Nat} {w : World} : Got none w (.returned (.float .f64 (nanOf w (.nanMinMax .f64 m x y)))) w.drew :=
  ⟨_, rfl, (nanm_cls w m x y).2, by unfold FlPlain.fin; rw [if_pos (nanm_cls w m x y).1]; rfl, .inr rfl⟩
theorem least2_lt {a b r : Nat} (ha : a < 18446744073709551616) (hb : b < 18446744073709551616) (h : FlPlain.least2 a b = some r) : r < 18446744073709551616 := by
  unfold FlPlain.least2 at h
  split at h <;> first | (cases h; done) | (injection h with h; subst h; first | assumption | (split <;> assumption))
theorem most2_lt {a b r : Nat} (ha : a < 18446744073709551616) (hb : b < 18446744073709551616) (h : FlPlain.most2 a b = some r) : r < 18446744073709551616 := by
  unfold FlPlain.most2 at h
  split at h <;> first | (cases h; done) | (injection h with h; subst h; first | assumption | (split <;> assumption))

set_option maxHeartbeats 400000 in
theorem calc_min (a b : Nat) (w : World) (ha : a < 18446744073709551616) (hb : b < 18446744073709551616) : Calls Try.prog 29 #[.int .u8 7, .float .f64 a, .float .f64 b] w (Got (FlPlain.least2 a b) w) := by
  have hr := fun ts t => min_run Try.prog ts t a b w
  cases h : FlPlain.least2 a b with
  | none =>
    rw [h] at hr
    go_enter Try.func29, Try.ntmps29
    go_wp2
    go_ret
    exact got_nanm
  | some r =>
    rw [h] at hr
    have hl := Lk.mk (least2_lt ha hb h)
    clear h ha hb
    go_enter Try.func29, Try.ntmps29
    go_wp2
    go_ret
    exact got_some hl.out
set_option maxHeartbeats 400000 in
theorem calc_max (a b : Nat) (w : World) (ha : a < 18446744073709551616) (hb : b < 18446744073709551616) : Calls Try.prog 29 #[.int .u8 8, .float .f64 a, .float .f64 b] w (Got (FlPlain.most2 a b) w) := by
  have hr := fun ts t => max_run Try.prog ts t a b w
  cases h : FlPlain.most2 a b with
  | none =>
    rw [h] at hr
    go_enter Try.func29, Try.ntmps29
    go_wp2
    go_ret
    exact got_nanm
  | some r =>
    rw [h] at hr
    have hl := Lk.mk (most2_lt ha hb h)
    clear h ha hb
    go_enter Try.func29, Try.ntmps29
    go_wp2
    go_ret
    exact got_some hl.out
theorem neg_run (P : Program) (a : Nat) (w : World) : (Op.unary .neg (.float .f64 a)).run P w = .ok (.float .f64 (a ^^^ 2 ^ 63)) w := rfl
set_option maxHeartbeats 400000 in
theorem calc_neg (a b : Nat) (w : World) (ha : a < 18446744073709551616) : Calls Try.prog 29 #[.int .u8 9, .float .f64 a, .float .f64 b] w (Got (some (a ^^^ 2 ^ 63)) w) := by
  have hr := neg_run Try.prog a w
  have hl : a ^^^ 2 ^ 63 < 18446744073709551616 := by rw [FlPlain.xor_flip ha]; exact FlPlain.flip_lt ha
  have HL := Lk.mk hl
  clear hl ha
  generalize a ^^^ 2 ^ 63 = c at *
  go_enter Try.func29, Try.ntmps29
  go_wp2
  go_ret
  exact got_some HL.out
theorem sqrt_run (a : Nat) (w : World) : (callFunc 46 #[.float .f64 a]).run Try.prog w =
    match Ieee.double.sqrt a with | some r => .ok (.value (.float .f64 r)) w | none => .ok (.value (.float .f64 (nanOf w (.nanBits .f64 a a)))) w.drew := by
  refine (run_callFunc_extern (e := Extern.MathSqrt.sqrt) Try.func46 (by kernel_rfl) (by kernel_rfl) (by kernel_rfl) (by kernel_rfl) _ w).trans ?_
  change (Sem.run Try.prog (match Ieee.double.sqrt a with | some r => (pure (Value.float .f64 r) : Sem Value) | none => do pure (Value.float .f64 (← choose (.nanBits .f64 a a)))) w).andThen _ = _
  cases h : Ieee.double.sqrt a with
  | none => simp [nanOf, Question.forced]
  | some o => simp
set_option maxHeartbeats 400000 in
theorem calc_root (a b : Nat) (w : World) : Calls Try.prog 29 #[.int .u8 10, .float .f64 a, .float .f64 b] w (Got (Ieee.double.sqrt a) w) := by
  have hr := sqrt_run a w
  cases h : Ieee.double.sqrt a with
  | none =>
    rw [h] at hr
    go_enter Try.func29, Try.ntmps29
    go_wp2
    go_ret
    exact got_nan
  | some r =>
    rw [h] at hr
    have hl := Lk.mk (show r < 18446744073709551616 by rw [← width64]; exact Ieee.Format.sqrt_lt _ h)
    clear h
    go_enter Try.func29, Try.ntmps29
    go_wp2
    go_ret
    exact got_some hl.out
theorem calc_any (k : Int) (a b : Nat) (w : World) (h1 : 1 ≤ k) (h2 : k ≤ 10) (ha : a < 18446744073709551616) (hb : b < 18446744073709551616) :
    Calls Try.prog 29 #[.int .u8 k, .float .f64 a, .float .f64 b] w (Got (FlPlain.own k.toNat a b) w) := by
  have h : k = 1 ∨ k = 2 ∨ k = 3 ∨ k = 4 ∨ k = 5 ∨ k = 6 ∨ k = 7 ∨ k = 8 ∨ k = 9 ∨ k = 10 := by omega
  rcases h with rfl | rfl | rfl | rfl | rfl | rfl | rfl | rfl | rfl | rfl
  · exact calc_add a b w
  · exact calc_sub a b w
  · exact calc_mul a b w
  · exact calc_div a b w
  · exact calc_less a b w
  · exact calc_same a b w
  · exact calc_min a b w ha hb
  · exact calc_max a b w ha hb
  · exact calc_neg a b w ha
  · exact calc_root a b w
end Go.Proofs.Ytcepafllgjnngaa
