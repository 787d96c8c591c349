/-
  The walks of fns.Least, and of the layer's awake; conditions: the functions read as told.
-/
import Derived.Test.YtmlchbldcoenaaaDoorBk
namespace Go.Proofs.YtmlchbldcoenaaaDoor
open Go.RowKit Go.Proofs.YtmlchbldcoenaaaDoorW.PrintWords

def leastL (l : List (Int × List Int)) : Int := l.foldl (fun n f => if mayB f.1 f.2 = true then max n (f.1 + 2) else n) 0
theorem least_next {l : List (Int × List Int)} {k : Nat} {f : Int × List Int} (h : k < l.length) (hf : f = l.getD k dF) : leastL (l.take (k + 1)) = if mayB f.1 f.2 = true then max (leastL (l.take k)) (f.1 + 2) else leastL (l.take k) := by
  unfold leastL
  rw [List.take_add_one, List.foldl_append, hf, List.getD_eq_getElem?_getD, List.getElem?_eq_getElem h]; rfl
theorem may_size {s : Int} {l : List Int} (h : mayB s l = true) : 0 ≤ s ∧ s ≤ 4096 := by
  unfold mayB at h
  simp at h
  omega

set_option maxRecDepth 100000 in
set_option maxHeartbeats 1000000 in
theorem least_any (A : Option Addr) (c : Nat) (l : List (Int × List Int)) (w : World) (hr : FnC w A l.length l) (hw : FnsOk l) (hT : Tab w) :
    Calls Tryd.prog 22 #[.slice A l.length c] w fun e w' => e = .returned (.int .i64 (leastL l)) ∧ Below w.heap.size w w' := by
  have HR := Lk.mk hr
  have HW := Lk.mk hw
  have HT := Lk.mk hT
  have hm := hr.2.1
  clear hr hw hT
  go_enter Tryd.func22, Tryd.ntmps22
  go_wp2
  go_loopg [3, 8] l.length (fun gg v3 v8 wr => ∃ (kk : Nat) (n : Int), kk ≤ l.length ∧ l.length - kk ≤ gg ∧ v8 = .int .i64 kk ∧ v3 = .int .i64 n ∧ 0 ≤ n ∧ n ≤ 5000 ∧ Lk (n = leastL (l.take kk)) ∧ Lk (Below w.heap.size w wr))
  case atStart => exact ⟨0, 0, by omega, by omega, rfl, rfl, by omega, by omega, ⟨rfl⟩, ⟨Below.refl _ _⟩⟩
  case round =>
    obtain ⟨kk, n, hk, hg, rfl, rfl, hn0, hn1, HN, HB⟩ := hrel
    by_cases hlt : kk < l.length
    · obtain ⟨ad, A1, c1, rfl, hcell0, hcell1, hc1, hr1⟩ := (HR.out.below HB.out).at_ kk hlt
      have hltz : (kk : Int) < (l.length : Int) := by omega
      obtain ⟨f, hf⟩ : ∃ f, f = l.getD kk dF := ⟨_, rfl⟩
      rw [← hf] at hcell0 hcell1 hc1 hr1
      have HM := Lk.mk (show f ∈ l by rw [hf]; exact getD_mem _ hlt)
      have HX := Lk.mk (least_next hlt hf)
      have HW1 := HW.out f HM.out
      have h6 := below_alloc (Below.refl wr.heap.size wr) (.cells #[.int .i64 f.1, .slice A1 f.2.length c1] 28)
      have HQ := Lk.mk (may_any f.1 A1 c1 f.2 _ (hr1.below h6) HW1.1 HW1.2.1 ((HT.out.below HB.out).below h6))
      have H6 := Lk.mk h6
      have hX2 : (wr.alloc (.cells #[.int .i64 f.1, .slice A1 f.2.length c1] 28)).cell? ⟨wr.heap.size, 0, none⟩ = some (.int .i64 f.1) := by simp
      clear hf hr1 HW1 h6
      cases hp : mayB f.1 f.2 with
      | false =>
        rw [hp] at HQ HX
        clear hp
        go_wp2_with (go_at_call 51; (with_reducible refine HQ.out.mono ?_); rintro e w' ⟨rfl, hb⟩)
        go_roundg (l.length - (kk + 1))
        case measure => omega
        case rel => exact ⟨kk + 1, n, by omega, by omega, by go_num, rfl, hn0, hn1, ⟨by rw [HX.out]; exact HN.out⟩, ⟨below_then (below_then HB.out HB.out.size H6.out) (Nat.le_trans HB.out.size H6.out.size) hb⟩⟩
      | true =>
        rw [hp] at HQ HX
        obtain ⟨hf0, hf1⟩ := may_size hp
        clear hp
        have hwr : IntKind.i64.wrap (f.1 + 2) = f.1 + 2 := IntWalk.i64_in _ (by omega)
        go_wp2_with (go_at_call 51; (with_reducible refine HQ.out.mono ?_); rintro e w' ⟨rfl, hb⟩; have hX3 := pw_cell_below hb hX2; have HB3 := Lk.mk hb; clear hb)
        all_goals go_roundg (l.length - (kk + 1))
        all_goals try (case measure => omega)
        all_goals exact ⟨kk + 1, max n (f.1 + 2), by omega, by omega, by go_num, (by congr 1; omega), by omega, by omega, ⟨by rw [HX.out, if_pos trivial, ← HN.out]⟩, ⟨below_then (below_then HB.out HB.out.size H6.out) (Nat.le_trans HB.out.size H6.out.size) HB3.out⟩⟩
    · have hltz : ¬ (kk : Int) < (l.length : Int) := by omega
      obtain rfl : kk = l.length := by omega
      go_wp2
      go_ret
      refine ⟨ret_int ?_, HB.out⟩
      rw [HN.out, List.take_length]
end Go.Proofs.YtmlchbldcoenaaaDoor
