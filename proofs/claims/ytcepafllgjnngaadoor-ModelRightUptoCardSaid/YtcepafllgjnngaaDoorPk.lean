/-
  The walk of the model's awake; the law ModelSame; conditions: the table of deBruijn stands; the rows read as told.
-/
import Derived.Test.YtcepafllgjnngaaDoorK7
import Derived.Test.YtcepafllgjnngaaDoorPj
import Derived.Test.YtcepafllgjnngaaDoorK1
namespace Go.Proofs.YtcepafllgjnngaaDoor
open Go.RowKit Go.Proofs.YtcepafllgjnngaaDoorW.PrintWords

def lE : List (Int × List Int) := [(0, [])]
theorem lE_ok : newOk lE = true := by decide +kernel
theorem lE_words : FnsOk lE := by
  intro f hf
  obtain rfl : f = (0, []) := by simpa [lE] using hf
  exact ⟨(fun x hx => by cases hx), by decide, by decide, by decide⟩
theorem lE_ent : ∀ e ∈ lE.map entryOf, Bm.Words e.2.1 := by
  intro e he
  obtain rfl : e = entryOf (0, []) := by simpa [lE] using he
  intro x hx
  have : (entryOf (0, [])).2.1 = [] := by decide +kernel
  rw [this] at hx
  cases hx
theorem lE_size : tSize (lE.map entryOf) 0 = 0 := by decide +kernel
theorem kAf_nil (w : World) (A : Option Addr) : kAf.C w A 0 [] := ⟨rfl, by simp, fun h => by simp at h⟩
def lF : List Af := [(0, [])]
theorem lF_right : RightP (tSize (lE.map entryOf)) (tPtr (lE.map entryOf)) lF := by
  refine ⟨fun d hd => ?_, fun d i hd hi => ?_⟩
  · obtain rfl : d = 0 := by simp [lF] at hd; omega
    decide +kernel
  · obtain rfl : d = 0 := by simp [lF] at hd; omega
    exact absurd hi (Nat.not_lt_zero i)
theorem call19 (g : Nat) (A : Option Addr) (w : World) (ht : TblAt w (.pointer (some ⟨g, 0, none⟩)) (lE.map entryOf)) :
    Calls Tryd.prog 68 #[.pointer (some ⟨g, 0, none⟩), .slice A 0 0, .int .i64 0] w fun e w' => Below w.heap.size w w' ∧ ∃ A' c', e = .returned (.tuple #[.slice A' 1 c', .int .i64 0]) ∧ kAf.C w' A' lF.length lF := by
  refine (mcall_zero (some ⟨g, 0, none⟩) _ 0 A 0 [] w ht.or lE_ent (kAf_nil w A) ⟨by decide, fun f hf => by cases hf⟩ (by decide) (fun f hf => by cases hf) ⟨fun d hd => absurd hd (by simp), fun d i hd => absurd hd (by simp)⟩ lE_size).mono ?_
  rintro e w' ⟨hb, v, rfl, hR⟩
  obtain ⟨A', c', rfl, _, hC⟩ := Kd.R_reads hR
  exact ⟨hb, A', c', rfl, hC⟩
theorem ret19 (g : Nat) (A : Option Addr) (c : Nat) (w : World) (ht : TblAt w (.pointer (some ⟨g, 0, none⟩)) (lE.map entryOf)) (hr : kAf.C w A lF.length lF) :
    Calls Tryd.prog 69 #[.pointer (some ⟨g, 0, none⟩), .slice A 1 c] w fun e w' => Below w.heap.size w w' ∧ ∃ v, e = .returned (.tuple #[v, .int .i64 8]) := by
  refine (mreturn_any (some ⟨g, 0, none⟩) _ A c lF w ht.or lE_ent hr ⟨by decide, fun f hf => ?_⟩ (by decide) (fun f hf => ?_) lF_right).mono ?_
  · obtain rfl : f = (0, []) := by simpa [lF] using hf
    decide
  · obtain rfl : f = (0, []) := by simpa [lF] using hf
    intro v hv
    cases hv
  · rintro e w' ⟨hb, v, _, rfl⟩
    exact ⟨hb, v, rfl⟩
set_option maxRecDepth 100000 in
set_option maxHeartbeats 2000000 in
theorem awake19_any (w : World) (hT : Tab w) : Calls Tryd.prog 25 #[] w fun e w' => e = .returned (.bool true) ∧ Below w.heap.size w w' := by
  have HAL := Lk.mk (fun W => below_alloc (Below.refl W.heap.size W) (.cells #[.int .i64 0, .slice none 0 0] 28))
  have HN := Lk.mk (new_good (some ⟨w.heap.size, 0, none⟩) 1 lE _ (fnC_new 0) lE_words (hT.below (HAL.out w)) lE_ok)
  rw [show lE.length = 1 from rfl] at HN
  clear hT
  go_enter Tryd.func25, Tryd.ntmps25
  go_wp2_with (first
    | (go_at_call 12; (with_reducible refine (HN.out).mono ?_); rintro e w1 ⟨p, rfl, htb, hb⟩; obtain ⟨g, hg⟩ : ∃ g, p = .pointer (some ⟨g, 0, none⟩) := (by obtain ⟨g, _, _, h, _⟩ := htb; exact ⟨g, h⟩); obtain rfl := hg.symm; clear hg; have HB1 := Lk.mk (below_alloc (below_then (HAL.out w) (HAL.out w).size hb) (.cells #[] 113)); have HT1 := Lk.mk (htb.below (below_alloc (Below.refl w1.heap.size w1) (.cells #[] 113))); clear hb htb)
    | (go_at_call 68; (with_reducible refine (call19 g _ _ HT1.out).mono ?_); rintro e w2 ⟨hb, A2, c2, rfl, hC⟩; have HB2 := Lk.mk (below_then HB1.out HB1.out.size hb); have HT2 := Lk.mk (HT1.out.below hb); have HC2 := Lk.mk hC; clear hb hC)
    | (go_at_call 69; (with_reducible refine (ret19 g _ _ _ HT2.out HC2.out).mono ?_); rintro e w3 ⟨hb, v3, rfl⟩; have HB3 := Lk.mk (below_then HB2.out HB2.out.size hb); clear hb))
  go_ret
  exact ⟨rfl, HB3.out⟩
end Go.Proofs.YtcepafllgjnngaaDoor
