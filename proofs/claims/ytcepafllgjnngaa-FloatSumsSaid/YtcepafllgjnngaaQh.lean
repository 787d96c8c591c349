/-
  The walk of the reference's edge at any operation; of its Calc.
-/
import Derived.Test.YtcepafllgjnngaaQe
import Derived.Test.YtcepafllgjnngaaQj
import Derived.Test.YtcepafllgjnngaaQk
import Derived.Test.YtcepafllgjnngaaQl
import Derived.Test.YtcepafllgjnngaaQm
import Derived.Test.YtcepafllgjnngaaQg
namespace Go.Proofs.Ytcepafllgjnngaa
open Go.RowKit Go.Proofs.Fl

theorem sub_form (a b : Nat) (hb : b < 18446744073709551616) : FlPlain.edgeAdd a (FlPlain.flip b) = if ((FlPlain.cls a : Nat) : Int) = 1 ∨ ((FlPlain.cls b : Nat) : Int) = 1 then some 9221120237041090561 else FlPlain.edgeAdd a (FlPlain.flip b) := by
  split
  · rename_i h
    unfold FlPlain.edgeAdd
    rw [FlPlain.cls_flip hb, if_pos (by omega)]
  · rfl
set_option maxRecDepth 100000 in
set_option maxHeartbeats 2000000 in
theorem edge_sub (a b : Nat) (w : World) (ha : a < 18446744073709551616) (hb : b < 18446744073709551616) : Calls Try.prog 31 #[.int .u8 2, .int .u64 a, .int .u64 b] w fun e w' => e = .returned (encO (FlPlain.edgeAdd a (FlPlain.flip b))) ∧ w' = w := by
  have CA := Lk.mk (fun w => class_any a w ha)
  have CB := Lk.mk (fun w => class_any b w hb)
  have BA := Lk.mk (fun w => below_any a w)
  have BB := Lk.mk (fun w => below_any b w)
  have SB : Lk (∀ w, Calls Try.prog 45 #[.int .u64 b, .bool !(FlPlain.below b)] w fun e w' => e = .returned (.int .u64 (FlPlain.flip b : Nat)) ∧ w' = w) := Lk.mk (fun w => signed_any b _ w hb)
  have EA := Lk.mk (fun w => edge_add a (FlPlain.flip b) w ha (FlPlain.flip_lt hb))
  have H := Lk.mk (sub_form a b hb)
  have Henc := Lk.mk (fun o : Option Nat => show encO o = .tuple #[.int .u64 ((o.getD 0 : Nat) : Int), .bool o.isSome] from rfl)
  generalize FlPlain.edgeAdd a (FlPlain.flip b) = o at *
  generalize FlPlain.flip b = fb at *
  generalize FlPlain.cls a = ca at *
  generalize FlPlain.cls b = cb at *
  generalize FlPlain.below a = ba at *
  generalize FlPlain.below b = bb at *
  generalize ho : encO o = eo at *
  have Ho := Lk.mk ho
  clear ha hb ho
  have HT := Lk.mk ((Henc.out o).symm.trans Ho.out)
  obtain ⟨x, hx⟩ : ∃ x, x = ((o.getD 0 : Nat) : Int) := ⟨_, rfl⟩
  obtain ⟨y, hy⟩ : ∃ y, y = o.isSome := ⟨_, rfl⟩
  have HX := Lk.mk hx
  have HY := Lk.mk hy
  have HE : eo = .tuple #[.int .u64 x, .bool y] := by rw [hx, hy]; exact HT.out.symm
  clear hx hy
  subst HE
  go_enter Try.func31, Try.ntmps31
  go_wp2_with (first | (go_at_call 41; first | ((with_reducible refine (CA.out _).mono ?_); rintro e w' ⟨rfl, rfl⟩) | ((with_reducible refine (CB.out _).mono ?_); rintro e w' ⟨rfl, rfl⟩)) | (go_at_call 7; first | ((with_reducible refine (BA.out _).mono ?_); rintro e w' ⟨rfl, rfl⟩) | ((with_reducible refine (BB.out _).mono ?_); rintro e w' ⟨rfl, rfl⟩)) | (go_at_call 44; (with_reducible refine (nan_any _).mono ?_); rintro e w' ⟨rfl, rfl⟩) | (go_at_call 45; (with_reducible refine (SB.out _).mono ?_); rintro e w' ⟨rfl, rfl⟩) | (go_at_call 31; (with_reducible refine (EA.out _).mono ?_); rintro e w' ⟨rfl, rfl⟩))
  all_goals go_ret2
  all_goals refine ⟨?_, rfl⟩
  all_goals have hH := H.out
  all_goals first | rfl | (rw [if_pos (by first | (left; assumption) | (right; assumption) | (simpa using ‹((ca : Int) == 1) = true ∨ ((cb : Int) == 1) = true›))] at hH; rw [HX.out, HY.out, hH]; rfl)

theorem edge_any (k : Int) (a b : Nat) (w : World) (h1 : 1 ≤ k) (h2 : k ≤ 10) (ha : a < 18446744073709551616) (hb : b < 18446744073709551616) :
    Calls Try.prog 31 #[.int .u8 k, .int .u64 a, .int .u64 b] w fun e w' => e = .returned (encO (edgeOf k.toNat a b)) ∧ w' = w := by
  have h : k = 1 ∨ k = 2 ∨ k = 3 ∨ k = 4 ∨ k = 5 ∨ k = 6 ∨ k = 7 ∨ k = 8 ∨ k = 9 ∨ k = 10 := by omega
  rcases h with rfl | rfl | rfl | rfl | rfl | rfl | rfl | rfl | rfl | rfl
  · exact edge_add a b w ha hb
  · exact edge_sub a b w ha hb
  · exact edge_mul a b w ha hb
  · exact edge_div a b w ha hb
  · exact edge_less a b w ha hb
  · exact edge_same a b w ha hb
  · exact edge_min a b w ha hb
  · exact edge_max a b w ha hb
  · exact edge_neg a b w ha hb
  · exact edge_root a b w ha hb

set_option maxHeartbeats 400000 in
theorem rcalc_bad (k a b : Int) (w : World) (h : k < 1 ∨ 10 < k) : Calls Try.prog 17 #[.int .u8 k, .int .u64 a, .int .u64 b] w fun e w' => e = .returned (.tuple #[.int .u64 0, .int .i64 1]) ∧ w' = w := by
  by_cases h1 : k < 1
  · clear h
    go_enter Try.func17, Try.ntmps17
    go_wp2
    go_ret2
    exact ⟨rfl, rfl⟩
  · have h2 : 10 < k := by omega
    clear h
    go_enter Try.func17, Try.ntmps17
    go_wp2
    go_ret2
    exact ⟨rfl, rfl⟩
set_option maxHeartbeats 400000 in
theorem rcalc_edge (k : Int) (a b x : Nat) (w : World) (h1 : 1 ≤ k) (h2 : k ≤ 10) (he : ∀ w, Calls Try.prog 31 #[.int .u8 k, .int .u64 a, .int .u64 b] w fun e w' => e = .returned (.tuple #[.int .u64 (x : Nat), .bool true]) ∧ w' = w) :
    Calls Try.prog 17 #[.int .u8 k, .int .u64 a, .int .u64 b] w fun e w' => e = .returned (.tuple #[.int .u64 (x : Nat), .int .i64 0]) ∧ w' = w := by
  have HE := Lk.mk he
  have k1 : ¬ k < 1 := by omega
  have k2 : ¬ 10 < k := by omega
  clear he h1 h2
  go_enter Try.func17, Try.ntmps17
  go_wp2_with (first | (go_at_call 31; (with_reducible refine (HE.out _).mono ?_); rintro e w' ⟨rfl, rfl⟩))
  go_ret2
  exact ⟨rfl, rfl⟩

set_option maxHeartbeats 400000 in
theorem rcalc_add (a b : Nat) (w : World) (he : ∀ w, Calls Try.prog 31 #[.int .u8 1, .int .u64 a, .int .u64 b] w fun e w' => e = .returned (.tuple #[.int .u64 0, .bool false]) ∧ w' = w) :
    Calls Try.prog 17 #[.int .u8 1, .int .u64 a, .int .u64 b] w fun e w' => e = .returned (.tuple #[.int .u64 (FlPlain.orNan (Ieee.double.add a b) : Nat), .int .i64 0]) ∧ (w' = w ∨ w' = w.drew) := by
  have HE := Lk.mk he
  have ra := frombits_run a
  have rb := frombits_run b
  clear he
  cases h : Ieee.double.add a b with
  | none =>
    have hr := fun w => run_float_invalid (P := Try.prog) w .add 43 a b h (.inl rfl)
    have hw := Lk.mk (fun w => whole_any (nanOf w (.nanBits .f64 a b)) w.drew (nan_cls w a b).2)
    have hc := Lk.mk (fun w => (nan_cls w a b).1)
    clear h
    go_enter Try.func17, Try.ntmps17
    go_wp2_with (first | (go_at_call 31; (with_reducible refine (HE.out _).mono ?_); rintro e w' ⟨rfl, rfl⟩) | (go_at_call 32; (with_reducible refine (hw.out _).mono ?_); rintro e w' ⟨rfl, rfl⟩))
    go_ret2
    exact ⟨by unfold FlPlain.fin; simp only [hc.out]; rfl, .inr rfl⟩
  | some r =>
    have hr := fun w => run_float_arith (P := Try.prog) w .add 43 .f64 a b r h
    have hw := Lk.mk (fun w => whole_any r w (by rw [← width64]; exact Ieee.Format.add_lt _ h))
    clear h
    go_enter Try.func17, Try.ntmps17
    go_wp2_with (first | (go_at_call 31; (with_reducible refine (HE.out _).mono ?_); rintro e w' ⟨rfl, rfl⟩) | (go_at_call 32; (with_reducible refine (hw.out _).mono ?_); rintro e w' ⟨rfl, rfl⟩))
    go_ret2
    exact ⟨rfl, .inl rfl⟩

set_option maxHeartbeats 400000 in
theorem rcalc_sub (a b : Nat) (w : World) (he : ∀ w, Calls Try.prog 31 #[.int .u8 2, .int .u64 a, .int .u64 b] w fun e w' => e = .returned (.tuple #[.int .u64 0, .bool false]) ∧ w' = w) :
    Calls Try.prog 17 #[.int .u8 2, .int .u64 a, .int .u64 b] w fun e w' => e = .returned (.tuple #[.int .u64 (FlPlain.orNan (Ieee.double.sub a b) : Nat), .int .i64 0]) ∧ (w' = w ∨ w' = w.drew) := by
  have HE := Lk.mk he
  have ra := frombits_run a
  have rb := frombits_run b
  clear he
  cases h : Ieee.double.sub a b with
  | none =>
    have hr := fun w => run_float_invalid (P := Try.prog) w .sub 43 a b h (.inr (.inl rfl))
    have hw := Lk.mk (fun w => whole_any (nanOf w (.nanBits .f64 a b)) w.drew (nan_cls w a b).2)
    have hc := Lk.mk (fun w => (nan_cls w a b).1)
    clear h
    go_enter Try.func17, Try.ntmps17
    go_wp2_with (first | (go_at_call 31; (with_reducible refine (HE.out _).mono ?_); rintro e w' ⟨rfl, rfl⟩) | (go_at_call 32; (with_reducible refine (hw.out _).mono ?_); rintro e w' ⟨rfl, rfl⟩))
    go_ret2
    exact ⟨by unfold FlPlain.fin; simp only [hc.out]; rfl, .inr rfl⟩
  | some r =>
    have hr := fun w => run_float_arith (P := Try.prog) w .sub 43 .f64 a b r h
    have hw := Lk.mk (fun w => whole_any r w (by rw [← width64]; exact Ieee.Format.sub_lt _ h))
    clear h
    go_enter Try.func17, Try.ntmps17
    go_wp2_with (first | (go_at_call 31; (with_reducible refine (HE.out _).mono ?_); rintro e w' ⟨rfl, rfl⟩) | (go_at_call 32; (with_reducible refine (hw.out _).mono ?_); rintro e w' ⟨rfl, rfl⟩))
    go_ret2
    exact ⟨rfl, .inl rfl⟩

set_option maxHeartbeats 400000 in
theorem rcalc_mul (a b : Nat) (w : World) (he : ∀ w, Calls Try.prog 31 #[.int .u8 3, .int .u64 a, .int .u64 b] w fun e w' => e = .returned (.tuple #[.int .u64 0, .bool false]) ∧ w' = w) :
    Calls Try.prog 17 #[.int .u8 3, .int .u64 a, .int .u64 b] w fun e w' => e = .returned (.tuple #[.int .u64 (FlPlain.orNan (Ieee.double.mul a b) : Nat), .int .i64 0]) ∧ (w' = w ∨ w' = w.drew) := by
  have HE := Lk.mk he
  have ra := frombits_run a
  have rb := frombits_run b
  clear he
  cases h : Ieee.double.mul a b with
  | none =>
    have hr := fun w => run_float_invalid (P := Try.prog) w .mul 43 a b h (.inr (.inr (.inl rfl)))
    have hw := Lk.mk (fun w => whole_any (nanOf w (.nanBits .f64 a b)) w.drew (nan_cls w a b).2)
    have hc := Lk.mk (fun w => (nan_cls w a b).1)
    clear h
    go_enter Try.func17, Try.ntmps17
    go_wp2_with (first | (go_at_call 31; (with_reducible refine (HE.out _).mono ?_); rintro e w' ⟨rfl, rfl⟩) | (go_at_call 32; (with_reducible refine (hw.out _).mono ?_); rintro e w' ⟨rfl, rfl⟩))
    go_ret2
    exact ⟨by unfold FlPlain.fin; simp only [hc.out]; rfl, .inr rfl⟩
  | some r =>
    have hr := fun w => run_float_arith (P := Try.prog) w .mul 43 .f64 a b r h
    have hw := Lk.mk (fun w => whole_any r w (by rw [← width64]; exact Ieee.Format.mul_lt _ h))
    clear h
    go_enter Try.func17, Try.ntmps17
    go_wp2_with (first | (go_at_call 31; (with_reducible refine (HE.out _).mono ?_); rintro e w' ⟨rfl, rfl⟩) | (go_at_call 32; (with_reducible refine (hw.out _).mono ?_); rintro e w' ⟨rfl, rfl⟩))
    go_ret2
    exact ⟨rfl, .inl rfl⟩

set_option maxHeartbeats 400000 in
theorem rcalc_div (a b : Nat) (w : World) (he : ∀ w, Calls Try.prog 31 #[.int .u8 4, .int .u64 a, .int .u64 b] w fun e w' => e = .returned (.tuple #[.int .u64 0, .bool false]) ∧ w' = w) :
    Calls Try.prog 17 #[.int .u8 4, .int .u64 a, .int .u64 b] w fun e w' => e = .returned (.tuple #[.int .u64 (FlPlain.orNan (Ieee.double.div a b) : Nat), .int .i64 0]) ∧ (w' = w ∨ w' = w.drew) := by
  have HE := Lk.mk he
  have ra := frombits_run a
  have rb := frombits_run b
  clear he
  cases h : Ieee.double.div a b with
  | none =>
    have hr := fun w => run_float_invalid (P := Try.prog) w .quo 43 a b h (.inr (.inr (.inr rfl)))
    have hw := Lk.mk (fun w => whole_any (nanOf w (.nanBits .f64 a b)) w.drew (nan_cls w a b).2)
    have hc := Lk.mk (fun w => (nan_cls w a b).1)
    clear h
    go_enter Try.func17, Try.ntmps17
    go_wp2_with (first | (go_at_call 31; (with_reducible refine (HE.out _).mono ?_); rintro e w' ⟨rfl, rfl⟩) | (go_at_call 32; (with_reducible refine (hw.out _).mono ?_); rintro e w' ⟨rfl, rfl⟩))
    go_ret2
    exact ⟨by unfold FlPlain.fin; simp only [hc.out]; rfl, .inr rfl⟩
  | some r =>
    have hr := fun w => run_float_arith (P := Try.prog) w .quo 43 .f64 a b r h
    have hw := Lk.mk (fun w => whole_any r w (by rw [← width64]; exact Ieee.Format.div_lt _ h))
    clear h
    go_enter Try.func17, Try.ntmps17
    go_wp2_with (first | (go_at_call 31; (with_reducible refine (HE.out _).mono ?_); rintro e w' ⟨rfl, rfl⟩) | (go_at_call 32; (with_reducible refine (hw.out _).mono ?_); rintro e w' ⟨rfl, rfl⟩))
    go_ret2
    exact ⟨rfl, .inl rfl⟩

set_option maxHeartbeats 400000 in
theorem rcalc_root (a b : Nat) (w : World) (he : ∀ w, Calls Try.prog 31 #[.int .u8 10, .int .u64 a, .int .u64 b] w fun e w' => e = .returned (.tuple #[.int .u64 0, .bool false]) ∧ w' = w) :
    Calls Try.prog 17 #[.int .u8 10, .int .u64 a, .int .u64 b] w fun e w' => e = .returned (.tuple #[.int .u64 (FlPlain.orNan (Ieee.double.sqrt a) : Nat), .int .i64 0]) ∧ (w' = w ∨ w' = w.drew) := by
  have HE := Lk.mk he
  have ra := frombits_run a
  have rb := frombits_run b
  have hr := sqrt_run a
  clear he
  cases h : Ieee.double.sqrt a with
  | none =>
    rw [h] at hr
    have hw := Lk.mk (fun w => whole_any (nanOf w (.nanBits .f64 a a)) w.drew (nan_cls w a a).2)
    have hc := Lk.mk (fun w => (nan_cls w a a).1)
    clear h
    go_enter Try.func17, Try.ntmps17
    go_wp2_with (first | (go_at_call 31; (with_reducible refine (HE.out _).mono ?_); rintro e w' ⟨rfl, rfl⟩) | (go_at_call 32; (with_reducible refine (hw.out _).mono ?_); rintro e w' ⟨rfl, rfl⟩) | (go_at_call 33; go_in))
    go_ret2
    exact ⟨by unfold FlPlain.fin; simp only [hc.out]; rfl, .inr rfl⟩
  | some r =>
    rw [h] at hr
    have hw := Lk.mk (fun w => whole_any r w (by rw [← width64]; exact Ieee.Format.sqrt_lt _ h))
    clear h
    go_enter Try.func17, Try.ntmps17
    go_wp2_with (first | (go_at_call 31; (with_reducible refine (HE.out _).mono ?_); rintro e w' ⟨rfl, rfl⟩) | (go_at_call 32; (with_reducible refine (hw.out _).mono ?_); rintro e w' ⟨rfl, rfl⟩) | (go_at_call 33; go_in))
    go_ret2
    exact ⟨rfl, .inl rfl⟩

theorem ref_some {op a b x : Nat} (h : edgeOf op a b = some x) : FlPlain.ref op a b = x := by
  unfold edgeOf at h
  unfold FlPlain.ref
  by_cases h1 : op = 1
  · rw [if_pos h1] at h ⊢; rw [h]; rfl
  rw [if_neg h1] at h ⊢
  by_cases h2 : op = 2
  · rw [if_pos h2] at h ⊢; rw [h]; rfl
  rw [if_neg h2] at h ⊢
  by_cases h3 : op = 3
  · rw [if_pos h3] at h ⊢; rw [h]; rfl
  rw [if_neg h3] at h ⊢
  by_cases h4 : op = 4
  · rw [if_pos h4] at h ⊢; rw [h]; rfl
  rw [if_neg h4] at h ⊢
  by_cases h5 : op = 5
  · rw [if_pos h5] at h ⊢; split at h <;> (rename_i c; injection h with h; first | (rw [if_pos c]; exact h) | (rw [if_neg c]; exact h))
  rw [if_neg h5] at h ⊢
  by_cases h6 : op = 6
  · rw [if_pos h6] at h ⊢; split at h <;> (rename_i c; injection h with h; first | (rw [if_pos c]; exact h) | (rw [if_neg c]; exact h))
  rw [if_neg h6] at h ⊢
  by_cases h7 : op = 7
  · rw [if_pos h7] at h ⊢; split at h <;> (rename_i c; injection h with h; first | (rw [if_pos c]; exact h) | (rw [if_neg c]; exact h))
  rw [if_neg h7] at h ⊢
  by_cases h8 : op = 8
  · rw [if_pos h8] at h ⊢; split at h <;> (rename_i c; injection h with h; first | (rw [if_pos c]; exact h) | (rw [if_neg c]; exact h))
  rw [if_neg h8] at h ⊢
  by_cases h9 : op = 9
  · rw [if_pos h9] at h ⊢; split at h <;> (rename_i c; injection h with h; first | (rw [if_pos c]; exact h) | (rw [if_neg c]; exact h))
  rw [if_neg h9] at h ⊢
  rw [h]; rfl
theorem none_of {c : Prop} [Decidable c] {x y : Nat} (h : (if c then some x else some y) = (none : Option Nat)) : False := by split at h <;> cases h

/-- THE REFERENCE's Calc -/
theorem rcalc_good (k : Int) (a b : Nat) (w : World) (h1 : 1 ≤ k) (h2 : k ≤ 10) (ha : a < 18446744073709551616) (hb : b < 18446744073709551616) :
    Calls Try.prog 17 #[.int .u8 k, .int .u64 a, .int .u64 b] w fun e w' => e = .returned (.tuple #[.int .u64 (FlPlain.ref k.toNat a b : Nat), .int .i64 0]) ∧ (w' = w ∨ w' = w.drew) := by
  have he := fun w => edge_any k a b w h1 h2 ha hb
  cases ho : edgeOf k.toNat a b with
  | some x =>
    rw [ho] at he
    rw [ref_some ho]
    exact (rcalc_edge k a b x w h1 h2 he).mono fun e w' h => ⟨h.1, .inl h.2⟩
  | none =>
    rw [ho] at he
    have h : k = 1 ∨ k = 2 ∨ k = 3 ∨ k = 4 ∨ k = 5 ∨ k = 6 ∨ k = 7 ∨ k = 8 ∨ k = 9 ∨ k = 10 := by omega
    rw [← FlPlain.own_ref ha hb]
    rcases h with rfl | rfl | rfl | rfl | rfl | rfl | rfl | rfl | rfl | rfl
    · exact rcalc_add a b w he
    · exact rcalc_sub a b w he
    · exact rcalc_mul a b w he
    · exact rcalc_div a b w he
    · exact (none_of ho).elim
    · exact (none_of ho).elim
    · exact (none_of ho).elim
    · exact (none_of ho).elim
    · exact (none_of ho).elim
    · exact rcalc_root a b w he
end Go.Proofs.Ytcepafllgjnngaa
