/-
  The walk of drain's awake; the law DrainRoomy; conditions: the table of deBruijn stands; the config reads as told.
-/
import Derived.Test.YtbikdngpannekaaDoorRg
import Derived.Test.YtbikdngpannekaaDoorEg
import Derived.Test.YtbikdngpannekaaDoorK2
import Derived.Deep.RegionHeld3
namespace Go.Proofs.YtbikdngpannekaaDoor
open Go.RowKit Go.Proofs.YtbikdngpannekaaDoorW.PrintWords

theorem fnC_two {w : World} (s t : Int) : FnC (w.alloc (.cells #[.int .i64 s, .slice none 0 0, .int .i64 t, .slice none 0 0] 66)) (some ⟨w.heap.size, 0, none⟩) 2 [(s, []), (t, [])] := by
  obtain ⟨h0, h1, h2, h3⟩ := cells4w (blk_new w (.cells #[.int .i64 s, .slice none 0 0, .int .i64 t, .slice none 0 0] 66))
  have hn : ∀ W : World, ReadsInt W .u64 none ([] : List Int).length [] := fun W => ⟨rfl, by simp, fun h => by simp at h⟩
  refine ⟨rfl, by simp, fun _ => ⟨_, rfl, fun j p hj => ?_⟩⟩
  cases j with
  | zero =>
    obtain rfl : p = (s, []) := by simpa using hj.symm
    refine ⟨[.int .i64 s, .slice none 0 0], rfl, ⟨none, 0, rfl, Nat.le_refl _, hn _⟩, fun i u hu => ?_⟩
    cases i with
    | zero => obtain rfl : u = _ := by simpa using hu.symm
              exact h0
    | succ i => cases i with
      | zero => obtain rfl : u = _ := by simpa using hu.symm
                exact h1
      | succ i => simp at hu
  | succ j => cases j with
    | zero =>
      obtain rfl : p = (t, []) := by simpa using hj.symm
      refine ⟨[.int .i64 t, .slice none 0 0], rfl, ⟨none, 0, rfl, Nat.le_refl _, hn _⟩, fun i u hu => ?_⟩
      cases i with
      | zero => obtain rfl : u = _ := by simpa using hu.symm
                exact h2
      | succ i => cases i with
        | zero => obtain rfl : u = _ := by simpa using hu.symm
                  exact h3
        | succ i => simp at hu
    | succ j => simp at hj
def lD : List (Int × List Int) := [(2, []), (60, [])]
theorem lD_words : FnsOk lD := by
  intro f hf
  rcases (by simpa [lD] using hf : f = (2, []) ∨ f = (60, [])) with rfl | rfl <;> exact ⟨(fun x hx => by cases hx), by decide, by decide, by decide⟩
theorem rD1 : roomyB 4 1 64 lD 0 1 = false := by decide +kernel
theorem rD0 : roomyB 4 1 64 lD 0 0 = true := by decide +kernel
theorem rD5 : pagesZ 512 = 8 := by decide +kernel
set_option maxRecDepth 100000 in
set_option maxHeartbeats 2000000 in
theorem awake26_any (w : World) (hT : Tab w) : Calls Tryd.prog 47 #[] w fun e w' => e = .returned (.bool true) ∧ Below w.heap.size w w' := by
  have hs1 : (w.alloc (.cells #[.int .i64 2, .slice none 0 0, .int .i64 60, .slice none 0 0] 66)).heap.size = w.heap.size + 1 := by simp
  have HA := Lk.mk (below_alloc (Below.refl w.heap.size w) (.cells #[.int .i64 2, .slice none 0 0, .int .i64 60, .slice none 0 0] 66))
  have HB := Lk.mk (below_alloc HA.out (.cells #[.int .i64 4, .int .i64 1, .int .i64 64, .slice (some ⟨w.heap.size, 0, none⟩) 2 2] 83))
  have hx := blk_new (w.alloc (.cells #[.int .i64 2, .slice none 0 0, .int .i64 60, .slice none 0 0] 66)) (.cells #[.int .i64 4, .int .i64 1, .int .i64 64, .slice (some ⟨w.heap.size, 0, none⟩) 2 2] 83)
  rw [hs1] at hx
  have HX := Lk.mk hx
  have hf0 : FnC (w.alloc (.cells #[.int .i64 2, .slice none 0 0, .int .i64 60, .slice none 0 0] 66)) (some ⟨w.heap.size, 0, none⟩) 2 lD := fnC_two 2 60
  have HD := Lk.mk (fun W (f g : Int) (hb : Below (w.alloc (.cells #[.int .i64 2, .slice none 0 0, .int .i64 60, .slice none 0 0] 66)).heap.size (w.alloc (.cells #[.int .i64 2, .slice none 0 0, .int .i64 60, .slice none 0 0] 66)) W) => droomy_any 4 1 64 (some ⟨w.heap.size, 0, none⟩) 2 lD f g W (hf0.below hb) lD_words ((hT.below HA.out).below hb) (by unfold I64; decide))
  rw [show lD.length = 2 from rfl] at HD
  have HD1 := Lk.mk (fun W hb => rD1 ▸ HD.out W 0 1 hb)
  have HD0 := Lk.mk (fun W hb => rD0 ▸ HD.out W 0 0 hb)
  have HP := Lk.mk (fun W => rD5 ▸ dpages_any 512 W (by decide))
  have HBL := Lk.mk (below_alloc (Below.refl _ (w.alloc (.cells #[.int .i64 2, .slice none 0 0, .int .i64 60, .slice none 0 0] 66))) (.cells #[.int .i64 4, .int .i64 1, .int .i64 64, .slice (some ⟨w.heap.size, 0, none⟩) 2 2] 83))
  obtain ⟨c0, c1, c2, c3⟩ := cells4w HX.out
  clear hT hx hf0 HD
  go_enter Tryd.func47, Tryd.ntmps47
  go_wp2_with (first
    | (go_at_call 48; (with_reducible refine (HD1.out _ HBL.out).mono ?_); rintro e w1 ⟨rfl, hb⟩; have HX := Lk.mk (blk_below HX.out hb); have HB := Lk.mk (below_then HB.out HB.out.size hb); have HBL := Lk.mk (below_then HBL.out HBL.out.size hb); obtain ⟨c0, c1, c2, c3⟩ := cells4w HX.out; clear hb)
    | (go_at_call 48; (with_reducible refine (HD0.out _ HBL.out).mono ?_); rintro e w1 ⟨rfl, hb⟩; have HX := Lk.mk (blk_below HX.out hb); have HB := Lk.mk (below_then HB.out HB.out.size hb); have HBL := Lk.mk (below_then HBL.out HBL.out.size hb); obtain ⟨c0, c1, c2, c3⟩ := cells4w HX.out; clear hb)
    | (go_at_call 50; (with_reducible refine (HP.out _).mono ?_); rintro e w1 ⟨rfl, hb⟩; have HB := Lk.mk (below_then HB.out HB.out.size hb); clear hb))
  go_ret
  exact ⟨rfl, HB.out⟩
theorem great_len {l : List (Int × List Int)} (h : greatL l = false) : ∀ f ∈ l, f.2.length ≤ 40 := by
  unfold greatL at h
  simp only [Bool.or_eq_false_iff, List.any_eq_false, decide_eq_false_iff_not, decide_eq_true_eq] at h
  exact fun f hf => by have := h.2 f hf; omega
set_option maxRecDepth 100000 in
set_option maxHeartbeats 2000000 in
theorem lawOfDrainRoomy (x : Cf) (f g n : Int) (w : World) (hx : CfIn w x) (_ : I64 f) (_ : I64 g) (hn : I64 n) (hT : Tab w) :
    Calls Tryd.prog 11 #[.agg #[.int .i64 x.pg, .int .i64 x.pr, .int .i64 x.lm, .slice x.A x.l.length x.c], .int .i64 f, .int .i64 g, .int .i64 n] w fun e w' => e = .returned (.bool true) ∧ Below w.heap.size w w' := by
  obtain ⟨pg, pr, lm, A, c, l⟩ := x
  obtain ⟨hr, hI, hlm⟩ := hx
  dsimp only at *
  have HB := Lk.mk (below_alloc (Below.refl w.heap.size w) (.cells #[.int .i64 pg, .int .i64 pr, .int .i64 lm, .slice A l.length c] 83))
  have HX := Lk.mk (blk_new w (.cells #[.int .i64 pg, .int .i64 pr, .int .i64 lm, .slice A l.length c] 83))
  obtain ⟨c0, c1, c2, c3⟩ := cells4w HX.out
  have HAW := Lk.mk (fun W (hb : Below w.heap.size w W) => awake26_any W (hT.below hb))
  have HG := Lk.mk (great_any A c l _ (hr.below HB.out))
  cases hg : greatL l with
  | true =>
    rw [hg] at HG
    clear hr hI hlm hn hT hg
    go_enter Tryd.func11, Tryd.ntmps11
    go_wp2_with (first
      | (go_at_call 24; (with_reducible refine (HG.out).mono ?_); rintro e w' ⟨rfl, hw⟩; obtain rfl := hw.symm; clear hw)
      | (go_at_call 47; (with_reducible refine (HAW.out _ HB.out).mono ?_); rintro e w1 ⟨rfl, hb⟩; have HB := Lk.mk (below_then HB.out HB.out.size hb); clear hb))
    go_ret
    exact ⟨rfl, HB.out⟩
  | false =>
    rw [hg] at HG
    have hok := FnsIn.ok hI hg
    have HD := Lk.mk (fun W (hb : Below w.heap.size w W) => droomy_any pg pr lm A c l f g W (hr.below hb) hok (hT.below hb) hlm)
    have HR := Lk.mk (fun W (hb : Below w.heap.size w W) => rroomy_any pg pr lm A c l f g W (hr.below hb) (fun y hy => ⟨(hok y hy).1, by have := great_len hg y hy; omega⟩) hlm)
    have HP := Lk.mk (fun W => dpages_any n W hn)
    have HP2 := Lk.mk (fun W => rpages_any n W hn)
    clear hr hI hlm hn hT hg hok
    generalize roomyB pg pr lm l f g = q at *
    generalize pagesZ n = z at *
    have HB1 := Lk.mk (below_drew HB.out)
    have HX1 := Lk.mk (blk_drew HX.out)
    obtain ⟨d0, d1, d2, d3⟩ := cells4w HX1.out
    go_enter Tryd.func11, Tryd.ntmps11
    go_wp2_with (go_at_call 24; (with_reducible refine (HG.out).mono ?_); rintro e w' ⟨rfl, hw⟩; obtain rfl := hw.symm; clear hw)
    have HB := HB1
    have HX := HX1
    go_region_held3 (fun W => W.cell? ⟨w.heap.size, 0, none⟩ = some (.int .i64 pg) ∧ W.cell? ⟨w.heap.size, 1, none⟩ = some (.int .i64 pr) ∧ W.cell? ⟨w.heap.size, 2, none⟩ = some (.int .i64 lm) ∧ W.cell? ⟨w.heap.size, 3, none⟩ = some (.slice A l.length c)) (first | exact ⟨d0, d1, d2, d3⟩ | exact cells4w HX.out) (first
      | (go_at_call 48; (with_reducible refine (HD.out _ HB.out).mono ?_); rintro e w1 ⟨rfl, hb⟩; have HX := Lk.mk (blk_below HX.out hb); have HB := Lk.mk (below_then HB.out HB.out.size hb); clear hb)
      | (go_at_call 49; (with_reducible refine (HR.out _ HB.out).mono ?_); rintro e w1 ⟨rfl, hb⟩; have HX := Lk.mk (blk_below HX.out hb); have HB := Lk.mk (below_then HB.out HB.out.size hb); clear hb)
      | (go_at_call 50; (with_reducible refine (HP.out _).mono ?_); rintro e w1 ⟨rfl, hb⟩; have HX := Lk.mk (blk_below HX.out hb); have HB := Lk.mk (below_then HB.out HB.out.size hb); clear hb)
      | (go_at_call 51; (with_reducible refine (HP2.out _).mono ?_); rintro e w' ⟨rfl, hw⟩; obtain rfl := hw.symm; clear hw)
      | (go_at_call 47; (with_reducible refine (HAW.out _ HB.out).mono ?_); rintro e w1 ⟨rfl, hb⟩; have HX := Lk.mk (blk_below HX.out hb); have HB := Lk.mk (below_then HB.out HB.out.size hb); clear hb))
    go_wp2
    go_ret
    exact ⟨rfl, HB.out⟩
end Go.Proofs.YtbikdngpannekaaDoor
