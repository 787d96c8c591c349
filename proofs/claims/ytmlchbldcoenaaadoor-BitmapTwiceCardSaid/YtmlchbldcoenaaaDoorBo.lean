/-
  The walk of the layer's awake; Fns of nil; what a table tells is what the reference tells.
-/
import Derived.Test.YtmlchbldcoenaaaDoorBl
import Derived.Test.YtmlchbldcoenaaaDoorBn
namespace Go.Proofs.YtmlchbldcoenaaaDoor
open Go.RowKit Go.Proofs.YtmlchbldcoenaaaDoorW.PrintWords

theorem TblAt.or {w : World} {p : Value} {ent : List (Int × (List Int × List Int))} (h : TblAt w p ent) : TblOr w p ent := Or.inr h
def lA : List (Int × List Int) := [(3, [2])]
theorem lA_ok : newOk lA = true := by decide +kernel
theorem lA_words : FnsOk lA := by
  intro f hf
  obtain rfl : f = (3, [2]) := by simpa [lA] using hf
  refine ⟨fun x hx => ?_, by decide, by decide, by decide⟩
  obtain rfl : x = 2 := by simpa using hx
  decide
theorem tA : tPtr (lA.map entryOf) 0 1 = true ∧ tPtr (lA.map entryOf) 0 0 = false ∧ tWords (lA.map entryOf) 0 = 5 := by decide +kernel
theorem entry_words {l : List (Int × List Int)} {e : Int × (List Int × List Int)} (h : e ∈ l.map entryOf) : Bm.Words e.2.1 := by
  obtain ⟨f, _, rfl⟩ := List.mem_map.1 h
  exact Bm.ofL_words _
theorem fnC_one {w : World} {ad : Addr} {s : Int} {A1 : Option Addr} {c1 : Nat} {m : List Int} (h0 : w.cell? (ad.add 0) = some (.int .i64 s)) (h1 : w.cell? (ad.add 1) = some (.slice A1 m.length c1)) (hc : m.length ≤ c1) (hr : ReadsInt w .u64 A1 m.length m) : FnC w (some ad) 1 [(s, m)] := by
  refine ⟨rfl, by decide, fun _ => ⟨ad, rfl, fun j p hj => ?_⟩⟩
  cases j with
  | zero =>
    obtain rfl : p = (s, m) := by simpa using hj.symm
    refine ⟨[.int .i64 s, .slice A1 m.length c1], rfl, ⟨A1, c1, rfl, hc, hr⟩, fun i u hu => ?_⟩
    cases i with
    | zero => obtain rfl : u = _ := by simpa using hu.symm
              simpa using h0
    | succ i => cases i with
      | zero => obtain rfl : u = _ := by simpa using hu.symm
                simpa using h1
      | succ i => simp at hu
  | succ j => simp at hj

set_option maxRecDepth 100000 in
set_option maxHeartbeats 1000000 in
theorem awake_any (w : World) (hT : Tab w) : Calls Tryd.prog 13 #[] w fun e w' => e = .returned (.bool true) ∧ Below w.heap.size w w' := by
  obtain ⟨wa, hwa⟩ : ∃ wa, wa = (w.alloc (.cells #[.int .u64 2] 23)).alloc (.cells #[.int .i64 3, .slice (some ⟨w.heap.size, 0, none⟩) 1 1] 28) := ⟨_, rfl⟩
  have hba : Below w.heap.size w wa := by rw [hwa]; exact (below_alloc (Below.refl _ _) _).alloc (by show _ ≤ (w.heap.push _).size; rw [Array.size_push]; omega) _
  have hfa : FnC wa (some ⟨w.heap.size + 1, 0, none⟩) lA.length lA := by
    refine fnC_one (A1 := some ⟨w.heap.size, 0, none⟩) (c1 := 1) ?_ ?_ (by decide) ?_
    · rw [hwa]; simp [Addr.add]
    · rw [hwa]; simp [Addr.add]
    · rw [hwa]; exact (own_reads' (own_lit w w.heap.size 23 .u64 [2] (Nat.le_refl _) (by simp))).below (below_alloc (Below.refl _ _) _)
  have HN := Lk.mk (new_good (some ⟨w.heap.size + 1, 0, none⟩) 1 lA wa hfa lA_words (hT.below hba) lA_ok)
  rw [show lA.length = 1 from rfl, hwa] at HN
  rw [hwa] at hba
  have HBA := Lk.mk hba
  clear hT hba hfa hwa wa
  go_enter Tryd.func13, Tryd.ntmps13
  go_wp2_with (first
    | (go_at_call 14; (with_reducible refine HN.out.mono ?_); rintro e w1 ⟨p, rfl, htb, hb⟩; have HTB := Lk.mk htb; have HB1 := Lk.mk (Below.refl w1.heap.size w1); have HB0 := Lk.mk (below_then HBA.out HBA.out.size hb); clear hb htb)
    | (go_at_call 27; (with_reducible refine (ptr_any _ _ 0 1 _ (TblAt.or (HTB.out.below HB1.out)) (fun _ => entry_words) (by decide)).mono ?_); rw [tA.1]; rintro e w' ⟨rfl, hb⟩; have HB1 := Lk.mk (below_then HB1.out HB1.out.size hb); clear hb)
    | (go_at_call 27; (with_reducible refine (ptr_any _ _ 0 0 _ (TblAt.or (HTB.out.below HB1.out)) (fun _ => entry_words) (by decide)).mono ?_); rw [tA.2.1]; rintro e w' ⟨rfl, hb⟩; have HB1 := Lk.mk (below_then HB1.out HB1.out.size hb); clear hb)
    | (go_at_call 26; (with_reducible refine (words_any _ _ 0 _ (TblAt.or (HTB.out.below HB1.out)) (by decide +kernel)).mono ?_); rw [tA.2.2]; rintro e w' ⟨rfl, rfl⟩))
  go_ret
  exact ⟨rfl, below_then HB0.out HB0.out.size HB1.out⟩
end Go.Proofs.YtmlchbldcoenaaaDoor
