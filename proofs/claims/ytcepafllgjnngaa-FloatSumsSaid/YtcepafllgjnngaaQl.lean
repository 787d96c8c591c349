/-
  The walk of the reference's edge: further operations.
-/
import Derived.Test.YtcepafllgjnngaaQe
namespace Go.Proofs.Ytcepafllgjnngaa
open Go.RowKit Go.Proofs.Fl

set_option linter.unusedSimpArgs false in
theorem form_min (a b : Nat) : edgeOf 7 a b = (if ((FlPlain.cls a : Nat) : Int) = 1 ∨ ((FlPlain.cls b : Nat) : Int) = 1 then some 9221120237041090561 else some (if (FlPlain.less b a) || decide (((FlPlain.cls a : Nat) : Int) = 3 ∧ ((FlPlain.cls b : Nat) : Int) = 3 ∧ (FlPlain.below b) = true) then b else a)) := by
    unfold edgeOf
    simp [show (((FlPlain.cls a : Nat) : Int) = 1) ↔ FlPlain.cls a = 1 by omega, show (((FlPlain.cls b : Nat) : Int) = 1) ↔ FlPlain.cls b = 1 by omega, show (((FlPlain.cls a : Nat) : Int) = 2) ↔ FlPlain.cls a = 2 by omega, show (((FlPlain.cls b : Nat) : Int) = 2) ↔ FlPlain.cls b = 2 by omega, show (((FlPlain.cls a : Nat) : Int) = 3) ↔ FlPlain.cls a = 3 by omega, show (((FlPlain.cls b : Nat) : Int) = 3) ↔ FlPlain.cls b = 3 by omega]
set_option maxRecDepth 100000 in
set_option maxHeartbeats 2000000 in
theorem edge_min (a b : Nat) (w : World) (ha : a < 18446744073709551616) (hb : b < 18446744073709551616) : Calls Try.prog 31 #[.int .u8 7, .int .u64 a, .int .u64 b] w fun e w' => e = .returned (encO (edgeOf 7 a b)) ∧ w' = w := by
  have CA := Lk.mk (fun w => class_any a w ha)
  have CB := Lk.mk (fun w => class_any b w hb)
  have BA := Lk.mk (fun w => below_any a w)
  have BB := Lk.mk (fun w => below_any b w)
  have LL := Lk.mk (fun w => less_any a b w ha hb)
  have MM := Lk.mk (fun w => less_any b a w hb ha)
  have SA := Lk.mk (fun s w => signed_any a s w ha)
  have S0 : Lk (∀ (s : Bool) (w : World), Calls Try.prog 45 #[.int .u64 0, .bool s] w fun e w' => e = .returned (.int .u64 (FlPlain.signed 0 s : Nat)) ∧ w' = w) := Lk.mk (fun s w => signed_any 0 s w (by omega))
  have SI : Lk (∀ (s : Bool) (w : World), Calls Try.prog 45 #[.int .u64 9218868437227405312, .bool s] w fun e w' => e = .returned (.int .u64 (FlPlain.signed 9218868437227405312 s : Nat)) ∧ w' = w) := Lk.mk (fun s w => signed_any 9218868437227405312 s w (by omega))
  have H := Lk.mk (form_min a b)
  generalize edgeOf 7 a b = o at *
  generalize FlPlain.cls a = ca at *
  generalize FlPlain.cls b = cb at *
  generalize FlPlain.below a = ba at *
  generalize FlPlain.below b = bb at *
  generalize FlPlain.less a b = ll at *
  generalize FlPlain.less b a = mm at *
  clear ha hb
  go_enter Try.func31, Try.ntmps31
  go_wp2_with (first | (go_at_call 41; first | ((with_reducible refine (CA.out _).mono ?_); rintro e w' ⟨rfl, rfl⟩) | ((with_reducible refine (CB.out _).mono ?_); rintro e w' ⟨rfl, rfl⟩)) | (go_at_call 7; first | ((with_reducible refine (BA.out _).mono ?_); rintro e w' ⟨rfl, rfl⟩) | ((with_reducible refine (BB.out _).mono ?_); rintro e w' ⟨rfl, rfl⟩)) | (go_at_call 43; first | ((with_reducible refine (LL.out _).mono ?_); rintro e w' ⟨rfl, rfl⟩) | ((with_reducible refine (MM.out _).mono ?_); rintro e w' ⟨rfl, rfl⟩)) | (go_at_call 44; (with_reducible refine (nan_any _).mono ?_); rintro e w' ⟨rfl, rfl⟩) | (go_at_call 42; (with_reducible refine (rtruth_any _ _).mono ?_); rintro e w' ⟨rfl, rfl⟩) | (go_at_call 45; first | ((with_reducible refine (SA.out _ _).mono ?_); rintro e w' ⟨rfl, rfl⟩) | ((with_reducible refine (S0.out _ _).mono ?_); rintro e w' ⟨rfl, rfl⟩) | ((with_reducible refine (SI.out _ _).mono ?_); rintro e w' ⟨rfl, rfl⟩)))
  all_goals go_ret2
  all_goals refine ⟨?_, rfl⟩
  all_goals rw [H.out]
  all_goals clear CA CB BA BB LL MM SA S0 SI H
  all_goals simp_all [encO]

set_option linter.unusedSimpArgs false in
theorem form_max (a b : Nat) : edgeOf 8 a b = (if ((FlPlain.cls a : Nat) : Int) = 1 ∨ ((FlPlain.cls b : Nat) : Int) = 1 then some 9221120237041090561 else some (if (FlPlain.less a b) || decide (((FlPlain.cls a : Nat) : Int) = 3 ∧ ((FlPlain.cls b : Nat) : Int) = 3 ∧ (FlPlain.below a) = true) then b else a)) := by
    unfold edgeOf
    simp [show (((FlPlain.cls a : Nat) : Int) = 1) ↔ FlPlain.cls a = 1 by omega, show (((FlPlain.cls b : Nat) : Int) = 1) ↔ FlPlain.cls b = 1 by omega, show (((FlPlain.cls a : Nat) : Int) = 2) ↔ FlPlain.cls a = 2 by omega, show (((FlPlain.cls b : Nat) : Int) = 2) ↔ FlPlain.cls b = 2 by omega, show (((FlPlain.cls a : Nat) : Int) = 3) ↔ FlPlain.cls a = 3 by omega, show (((FlPlain.cls b : Nat) : Int) = 3) ↔ FlPlain.cls b = 3 by omega]
set_option maxRecDepth 100000 in
set_option maxHeartbeats 2000000 in
theorem edge_max (a b : Nat) (w : World) (ha : a < 18446744073709551616) (hb : b < 18446744073709551616) : Calls Try.prog 31 #[.int .u8 8, .int .u64 a, .int .u64 b] w fun e w' => e = .returned (encO (edgeOf 8 a b)) ∧ w' = w := by
  have CA := Lk.mk (fun w => class_any a w ha)
  have CB := Lk.mk (fun w => class_any b w hb)
  have BA := Lk.mk (fun w => below_any a w)
  have BB := Lk.mk (fun w => below_any b w)
  have LL := Lk.mk (fun w => less_any a b w ha hb)
  have MM := Lk.mk (fun w => less_any b a w hb ha)
  have SA := Lk.mk (fun s w => signed_any a s w ha)
  have S0 : Lk (∀ (s : Bool) (w : World), Calls Try.prog 45 #[.int .u64 0, .bool s] w fun e w' => e = .returned (.int .u64 (FlPlain.signed 0 s : Nat)) ∧ w' = w) := Lk.mk (fun s w => signed_any 0 s w (by omega))
  have SI : Lk (∀ (s : Bool) (w : World), Calls Try.prog 45 #[.int .u64 9218868437227405312, .bool s] w fun e w' => e = .returned (.int .u64 (FlPlain.signed 9218868437227405312 s : Nat)) ∧ w' = w) := Lk.mk (fun s w => signed_any 9218868437227405312 s w (by omega))
  have H := Lk.mk (form_max a b)
  generalize edgeOf 8 a b = o at *
  generalize FlPlain.cls a = ca at *
  generalize FlPlain.cls b = cb at *
  generalize FlPlain.below a = ba at *
  generalize FlPlain.below b = bb at *
  generalize FlPlain.less a b = ll at *
  generalize FlPlain.less b a = mm at *
  clear ha hb
  go_enter Try.func31, Try.ntmps31
  go_wp2_with (first | (go_at_call 41; first | ((with_reducible refine (CA.out _).mono ?_); rintro e w' ⟨rfl, rfl⟩) | ((with_reducible refine (CB.out _).mono ?_); rintro e w' ⟨rfl, rfl⟩)) | (go_at_call 7; first | ((with_reducible refine (BA.out _).mono ?_); rintro e w' ⟨rfl, rfl⟩) | ((with_reducible refine (BB.out _).mono ?_); rintro e w' ⟨rfl, rfl⟩)) | (go_at_call 43; first | ((with_reducible refine (LL.out _).mono ?_); rintro e w' ⟨rfl, rfl⟩) | ((with_reducible refine (MM.out _).mono ?_); rintro e w' ⟨rfl, rfl⟩)) | (go_at_call 44; (with_reducible refine (nan_any _).mono ?_); rintro e w' ⟨rfl, rfl⟩) | (go_at_call 42; (with_reducible refine (rtruth_any _ _).mono ?_); rintro e w' ⟨rfl, rfl⟩) | (go_at_call 45; first | ((with_reducible refine (SA.out _ _).mono ?_); rintro e w' ⟨rfl, rfl⟩) | ((with_reducible refine (S0.out _ _).mono ?_); rintro e w' ⟨rfl, rfl⟩) | ((with_reducible refine (SI.out _ _).mono ?_); rintro e w' ⟨rfl, rfl⟩)))
  all_goals go_ret2
  all_goals refine ⟨?_, rfl⟩
  all_goals rw [H.out]
  all_goals clear CA CB BA BB LL MM SA S0 SI H
  all_goals simp_all [encO]
end Go.Proofs.Ytcepafllgjnngaa
