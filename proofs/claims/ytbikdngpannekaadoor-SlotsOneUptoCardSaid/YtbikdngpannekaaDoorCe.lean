/-
  The walks of the slots' great and awake; conditions: what is handed in reads as told.
-/
import Derived.Test.YtbikdngpannekaaDoorCd
import Derived.Test.YtbikdngpannekaaDoorBo
namespace Go.Proofs.YtbikdngpannekaaDoor
open Go.RowKit Go.Proofs.YtbikdngpannekaaDoorW.PrintWords

theorem great16_any (W0 : Option Addr) (n c0 : Nat) (A : Option Addr) (c : Nat) (t : List (Int × List Int)) (B : Option Addr) (m c' : Nat) (w : World) (hr : FnC w A t.length t) (hn : n ≤ 9223372036854775807) (hm : m ≤ 9223372036854775807) :
    Calls Tryd.prog 19 #[.slice W0 n c0, .slice A t.length c, .slice B m c'] w fun e w' => e = .returned (.bool (decide (256 < n) || greatL t || decide (40 < m))) ∧ w' = w := by
  have HG := Lk.mk (great_any A c t w hr)
  have H := Lk.mk (show (decide (256 < n) || greatL t || decide (40 < m)) = true ↔ ((256 : Int) < n ∨ greatL t = true ∨ (40 : Int) < m) by
    simp only [Bool.or_eq_true, decide_eq_true_eq, or_assoc]; rw [show (256 < n) ↔ ((256 : Int) < n) by omega, show (40 < m) ↔ ((40 : Int) < m) by omega])
  clear hr
  generalize (decide (256 < n) || greatL t || decide (40 < m)) = r at *
  generalize greatL t = g at *
  cases g with
  | true =>
    have H2 := Lk.mk (show r = true from H.out.2 (.inr (.inl rfl)))
    clear H
    go_enter Tryd.func19, Tryd.ntmps19
    go_wp2_with (go_at_call 24; (with_reducible refine (HG.out).mono ?_); rintro e w' ⟨rfl, hw⟩; obtain rfl := hw.symm; clear hw)
    all_goals go_ret
    all_goals exact ⟨ret_bool H2.out.symm, rfl⟩
  | false =>
    go_enter Tryd.func19, Tryd.ntmps19
    go_wp2_with (go_at_call 24; (with_reducible refine (HG.out).mono ?_); rintro e w' ⟨rfl, hw⟩; obtain rfl := hw.symm; clear hw)
    all_goals go_ret
    all_goals refine ⟨ret_bool ?_, rfl⟩
    all_goals rw [Bool.eq_iff_iff, H.out]
    all_goals clear H HG
    all_goals (simp only [beq_iff_eq, bne_iff_ne, beq_eq_false_iff_ne, bne_eq_false_iff_eq, decide_eq_true_eq, decide_eq_false_iff_not, ne_eq, Bool.false_eq_true, Bool.true_eq_false, Bool.and_eq_true, Bool.or_eq_true, Bool.not_eq_true', not_true_eq_false, not_false_eq_true, false_iff, true_iff, iff_true, iff_false, or_false, false_or, or_true, true_or, and_true, true_and, and_false, false_and] at * <;> omega)

/-- the functions of the layer's awake -/
def lS : List (Int × List Int) := [(3, [])]
theorem lS_ok : newOk lS = true := by decide +kernel
theorem lS_words : FnsOk lS := by
  intro f hf
  obtain rfl : f = (3, []) := by simpa [lS] using hf
  exact ⟨(fun x hx => by cases hx), by decide, by decide, by decide⟩
theorem tS : tSize (lS.map entryOf) 0 = 3 ∧ EntIn (lS.map entryOf) := by
  refine ⟨by decide +kernel, fun e he => ?_⟩
  obtain rfl : e = entryOf (3, []) := by simpa [lS] using he
  decide +kernel
def frS : List Sl.Fr := [(59, (0, -1))]
theorem kFr_one {w : World} {ad : Addr} {a f k : Int} (h0 : w.cell? (ad.add 0) = some (.int .i64 a)) (h1 : w.cell? (ad.add 1) = some (.int .i64 f)) (h2 : w.cell? (ad.add 2) = some (.int .i64 k)) : kFr.C w (some ad) ([(a, (f, k))] : List Sl.Fr).length [(a, (f, k))] := by
  refine ⟨rfl, by simp, fun _ => ⟨ad, rfl, fun j p hj => ?_⟩⟩
  cases j with
  | zero =>
    obtain rfl : p = (a, (f, k)) := by simpa using hj.symm
    refine ⟨[.int .i64 a, .int .i64 f, .int .i64 k], rfl, ⟨[_], [_, _], rfl, rfl, [_], [_], rfl, rfl, rfl⟩, fun i u hu => ?_⟩
    cases i with
    | zero => obtain rfl : u = _ := by simpa using hu.symm
              simpa using h0
    | succ i => cases i with
      | zero => obtain rfl : u = _ := by simpa using hu.symm
                simpa using h1
      | succ i => cases i with
        | zero => obtain rfl : u = _ := by simpa using hu.symm
                  simpa using h2
        | succ i => simp at hu
  | succ j => simp at hj
theorem kVl_one {w : World} {ad : Addr} {a b c d : Int} (h0 : w.cell? (ad.add 0) = some (.int .u8 a)) (h1 : w.cell? (ad.add 1) = some (.int .u64 b)) (h2 : w.cell? (ad.add 2) = some (.int .i64 c)) (h3 : w.cell? (ad.add 3) = some (.int .i64 d)) : kVl.C w (some ad) ([(a, (b, (c, d)))] : List Sl.Vl).length [(a, (b, (c, d)))] := by
  refine ⟨rfl, by simp, fun _ => ⟨ad, rfl, fun j p hj => ?_⟩⟩
  cases j with
  | zero =>
    obtain rfl : p = (a, (b, (c, d))) := by simpa using hj.symm
    refine ⟨[.int .u8 a, .int .u64 b, .int .i64 c, .int .i64 d], rfl, ⟨[_], [_, _, _], rfl, rfl, [_], [_, _], rfl, rfl, [_], [_], rfl, rfl, rfl⟩, fun i u hu => ?_⟩
    cases i with
    | zero => obtain rfl : u = _ := by simpa using hu.symm
              simpa using h0
    | succ i => cases i with
      | zero => obtain rfl : u = _ := by simpa using hu.symm
                simpa using h1
      | succ i => cases i with
        | zero => obtain rfl : u = _ := by simpa using hu.symm
                  simpa using h2
        | succ i => cases i with
          | zero => obtain rfl : u = _ := by simpa using hu.symm
                    simpa using h3
          | succ i => simp at hu
  | succ j => simp at hj
theorem fnC_new {w : World} (s : Int) : FnC (w.alloc (.cells #[.int .i64 s, .slice none 0 0] 66)) (some ⟨w.heap.size, 0, none⟩) 1 [(s, [])] :=
  fnC_one (A1 := none) (c1 := 0) (m := []) (by simp [Addr.add]) (by simp [Addr.add]) (by decide) ⟨rfl, by simp, fun h => by simp at h⟩

theorem sA1 (W : World) (p : Value) (h : TblAt W p (lS.map entryOf)) : Calls Tryd.prog 20 #[p, .slice (some ⟨W.heap.size, 0, none⟩) 1 1, .int .i64 0, .int .i64 0] (W.alloc (.cells #[.int .i64 59, .int .i64 0, .int .i64 (-1)] 52)) fun e w' => e = .returned (.tuple #[.int .i64 61, .int .i64 0]) ∧ Below W.heap.size W w' := by
  have h0 := below_alloc (Below.refl W.heap.size W) (.cells #[.int .i64 59, .int .i64 0, .int .i64 (-1)] 52)
  have := address_ok p (lS.map entryOf) (some ⟨W.heap.size, 0, none⟩) 1 frS 0 0 (W.alloc (.cells #[.int .i64 59, .int .i64 0, .int .i64 (-1)] 52)) (h.or.below h0) (kFr_one (by simp [Addr.add]) (by simp [Addr.add]) (by simp [Addr.add])) tS.2 (by decide +kernel)
  exact this.mono fun e w' ⟨he, hb⟩ => ⟨he, below_then h0 h0.size hb⟩
theorem sM1 (W : World) : Calls Tryd.prog 17 #[.slice (some ⟨W.heap.size, 0, none⟩) 1 1] (W.alloc (.cells #[.int .u8 1, .int .u64 7, .int .i64 0, .int .i64 0] 27)) fun e w' => e = .returned (.bool true) ∧ Below W.heap.size W w' := by
  have h0 := below_alloc (Below.refl W.heap.size W) (.cells #[.int .u8 1, .int .u64 7, .int .i64 0, .int .i64 0] 27)
  have := smayAll_any (some ⟨W.heap.size, 0, none⟩) 1 [(1, (7, (0, 0)))] (W.alloc (.cells #[.int .u8 1, .int .u64 7, .int .i64 0, .int .i64 0] 27)) (kVl_one (by simp [Addr.add]) (by simp [Addr.add]) (by simp [Addr.add]) (by simp [Addr.add])) (by intro v hv; obtain rfl : v = _ := (by simpa using hv); unfold VlIn; decide)
  exact this.mono fun e w' ⟨he, hb⟩ => ⟨he, below_then h0 h0.size hb⟩
theorem sM2 (W : World) : Calls Tryd.prog 17 #[.slice (some ⟨W.heap.size, 0, none⟩) 1 1] (W.alloc (.cells #[.int .u8 0, .int .u64 7, .int .i64 0, .int .i64 0] 27)) fun e w' => e = .returned (.bool false) ∧ Below W.heap.size W w' := by
  have h0 := below_alloc (Below.refl W.heap.size W) (.cells #[.int .u8 0, .int .u64 7, .int .i64 0, .int .i64 0] 27)
  have := smayAll_any (some ⟨W.heap.size, 0, none⟩) 1 [(0, (7, (0, 0)))] (W.alloc (.cells #[.int .u8 0, .int .u64 7, .int .i64 0, .int .i64 0] 27)) (kVl_one (by simp [Addr.add]) (by simp [Addr.add]) (by simp [Addr.add]) (by simp [Addr.add])) (by intro v hv; obtain rfl : v = _ := (by simpa using hv); unfold VlIn; decide)
  exact this.mono fun e w' ⟨he, hb⟩ => ⟨he, below_then h0 h0.size hb⟩
set_option maxRecDepth 100000 in
set_option maxHeartbeats 2000000 in
theorem awake16_any (w : World) (hT : Tab w) : Calls Tryd.prog 15 #[] w fun e w' => e = .returned (.bool true) ∧ Below w.heap.size w w' := by
  have hba : Below w.heap.size w (w.alloc (.cells #[.int .i64 3, .slice none 0 0] 66)) := below_alloc (Below.refl _ _) _
  have HN := Lk.mk (new_good (some ⟨w.heap.size, 0, none⟩) 1 lS _ (fnC_new 3) lS_words (hT.below hba) lS_ok)
  rw [show lS.length = 1 from rfl] at HN
  have HBA := Lk.mk hba
  clear hT hba
  go_enter Tryd.func15, Tryd.ntmps15
  go_wp2_with (first
    | (go_at_call 18; (with_reducible refine (HN.out).mono ?_); rintro e w1 ⟨p, rfl, htb, hb⟩; have HTB := Lk.mk htb; have HB := Lk.mk (below_then HBA.out HBA.out.size hb); clear hb htb)
    | (go_at_call 20; (with_reducible refine (sA1 _ _ HTB.out).mono ?_); rintro e w' ⟨rfl, hb⟩; have HB := Lk.mk (below_then HB.out HB.out.size hb); clear hb)
    | (go_at_call 17; (with_reducible refine (sM1 _).mono ?_); rintro e w' ⟨rfl, hb⟩; have HB := Lk.mk (below_then HB.out HB.out.size hb); clear hb)
    | (go_at_call 17; (with_reducible refine (sM2 _).mono ?_); rintro e w' ⟨rfl, hb⟩; have HB := Lk.mk (below_then HB.out HB.out.size hb); clear hb))
  go_ret
  exact ⟨rfl, HB.out⟩
end Go.Proofs.YtbikdngpannekaaDoor
