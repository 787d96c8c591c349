/-
  The walks of the library's Equal at values and EqualFunc at frames, of model.Same, of the reference's Same and Great; conditions: what is handed in reads as told.
-/
import Derived.Test.YtbikdngpannekaaDoorPa
import Derived.Test.YtbikdngpannekaaDoorK1
import Derived.Deep.RegionHeld3
namespace Go.Proofs.YtbikdngpannekaaDoor
open Go.RowKit Go.Proofs.YtbikdngpannekaaDoorW.PrintWords

set_option maxRecDepth 100000 in
set_option maxHeartbeats 2000000 in
theorem equalV_any (A : Option Addr) (c : Nat) (l : List Sl.Vl) (B : Option Addr) (d : Nat) (m : List Sl.Vl) (w : World) (hr : kVl.C w A l.length l) (hr2 : kVl.C w B m.length m) :
    Calls Tryd.prog 95 #[.slice A l.length c, .slice B m.length d] w fun e w' => e = .returned (.bool (decide (l = m))) ∧ Below w.heap.size w w' := by
  have hm1 := hr.2.1
  have hm2 := hr2.2.1
  have HR := Lk.mk hr
  have HR2 := Lk.mk hr2
  clear hr hr2
  by_cases hlen : l.length = m.length
  · rw [← hlen] at HR2 hm2 ⊢
    have HLEN := Lk.mk hlen
    clear hlen
    go_enter Tryd.func95, Tryd.ntmps95
    go_wp2
    go_loopg [13] l.length (fun gg v13 wr => ∃ k : Nat, k ≤ l.length ∧ l.length - k ≤ gg ∧ v13 = .int .i64 k ∧ Lk (SmTo Sl.dVl l m k) ∧ Lk (Below w.heap.size w wr))
    case atStart => exact ⟨0, by omega, by omega, rfl, ⟨SmTo.zero _ _ _⟩, ⟨Below.refl _ _⟩⟩
    case round =>
      obtain ⟨k, hk, hg, rfl, HE, HB⟩ := hrel
      by_cases hlt : k < l.length
      · have hltz : (k : Int) < (l.length : Int) := by omega
        obtain ⟨ad1, rfl, a0, a1, a2, a3⟩ := kVl_at (Kd.C_below HR.out HB.out) k hlt
        obtain ⟨ad2, rfl, b0, b1, b2, b3⟩ := kVl_at (Kd.C_below HR2.out HB.out) k hlt
        have HX := Lk.mk (fun h : l.getD k Sl.dVl = m.getD k Sl.dVl => HE.out.next h)
        have H := Lk.mk (sm_ne Sl.dVl l m k)
        generalize l.getD k Sl.dVl = x at *
        generalize m.getD k Sl.dVl = y at *
        obtain ⟨x0, x1, x2, x3⟩ := x
        obtain ⟨y0, y1, y2, y3⟩ := y
        dsimp only at *
        by_cases hxy : x0 = y0 ∧ x1 = y1 ∧ x2 = y2 ∧ x3 = y3
        · obtain ⟨rfl, rfl, rfl, rfl⟩ := hxy
          go_wp2
          go_region
          go_wp2
          go_roundg (l.length - (k + 1))
          case measure => omega
          case rel => exact ⟨k + 1, by omega, by omega, by go_num, ⟨HX.out (by first | rfl | trivial)⟩, ⟨below_drew HB.out⟩⟩
        · have H2 := Lk.mk (H.out (fun e => hxy (by injection e with e1 e2; injection e2 with e2 e3; injection e3 with e3 e4; exact ⟨e1, e2, e3, e4⟩)))
          clear HX H
          by_cases e0 : x0 = y0
          · by_cases e1 : x1 = y1
            · by_cases e2 : x2 = y2
              · have e3 : ¬ x3 = y3 := fun h => hxy ⟨e0, e1, e2, h⟩
                clear hxy
                go_wp2
                go_region
                go_wp2
                go_ret
                exact ⟨ret_bool (by rw [H2.out]), below_drew HB.out⟩
              · clear hxy
                go_wp2
                go_region
                go_wp2
                go_ret
                exact ⟨ret_bool (by rw [H2.out]), below_drew HB.out⟩
            · clear hxy
              go_wp2
              go_region
              go_wp2
              go_ret
              exact ⟨ret_bool (by rw [H2.out]), below_drew HB.out⟩
          · clear hxy
            go_wp2
            go_region
            go_wp2
            go_ret
            exact ⟨ret_bool (by rw [H2.out]), below_drew HB.out⟩
      · have hltz : ¬ (k : Int) < (l.length : Int) := by omega
        obtain rfl : k = l.length := by omega
        go_wp2
        go_ret
        exact ⟨ret_bool (sm_all Sl.dVl HLEN.out HE.out).symm, HB.out⟩
  · have hlz : ¬ (l.length : Int) = (m.length : Int) := by omega
    have H := Lk.mk (sm_len l m hlen)
    generalize decide (l = m) = r at *
    go_enter Tryd.func95, Tryd.ntmps95
    go_wp2
    go_ret
    exact ⟨ret_bool (by rw [H.out]), Below.refl _ _⟩
theorem af_eq (x y : Af) : decide (x = y) = (decide (x.1 = y.1) && decide (x.2 = y.2)) := by
  obtain ⟨a, b⟩ := x
  obtain ⟨c, d⟩ := y
  rw [Bool.eq_iff_iff]
  simp
set_option maxRecDepth 100000 in
set_option maxHeartbeats 2000000 in
theorem msameLit_any (x y : Af) (A : Option Addr) (c : Nat) (B : Option Addr) (d : Nat) (w : World) (hr : kVl.C w A x.2.length x.2) (hr2 : kVl.C w B y.2.length y.2) :
    Calls Tryd.prog 94 #[.agg #[.int .i64 x.1, .slice A x.2.length c], .agg #[.int .i64 y.1, .slice B y.2.length d]] w fun e w' => e = .returned (.bool (decide (x = y))) ∧ Below w.heap.size w w' := by
  have H0 := Lk.mk (below_alloc (below_alloc (Below.refl w.heap.size w) (.cells #[.int .i64 x.1, .slice A x.2.length c] 124)) (.cells #[.int .i64 y.1, .slice B y.2.length d] 124))
  have HE := Lk.mk (equalV_any A c x.2 B d y.2 _ (Kd.C_below hr H0.out) (Kd.C_below hr2 H0.out))
  have H := Lk.mk (af_eq x y)
  clear hr hr2
  obtain ⟨x, l⟩ := x
  obtain ⟨y, m⟩ := y
  dsimp only at *
  generalize decide (l = m) = q at *
  generalize decide ((x, l) = (y, m)) = r at *
  by_cases h : x = y
  · subst h
    go_enter Tryd.func94, Tryd.ntmps94
    go_wp2_with (go_at_call 95; (with_reducible refine (HE.out).mono ?_); rintro e w1 ⟨rfl, hb⟩)
    go_ret
    exact ⟨ret_bool (by rw [H.out]; simp), below_then H0.out H0.out.size hb⟩
  · go_enter Tryd.func94, Tryd.ntmps94
    go_wp2
    go_ret
    exact ⟨ret_bool (by rw [H.out, decide_eq_false h]; rfl), H0.out⟩
set_option maxRecDepth 100000 in
set_option maxHeartbeats 2000000 in
theorem msame_any (A : Option Addr) (c : Nat) (l : List Af) (B : Option Addr) (d : Nat) (m : List Af) (w : World) (hr : kAf.C w A l.length l) (hr2 : kAf.C w B m.length m) :
    Calls Tryd.prog 46 #[.slice A l.length c, .slice B m.length d] w fun e w' => e = .returned (.bool (decide (l = m))) ∧ Below w.heap.size w w' := by
  have HF : Calls Tryd.prog 93 #[.slice A l.length c, .slice B m.length d, .func (.func 94) #[] #[]] w fun e w' => e = .returned (.bool (decide (l = m))) ∧ Below w.heap.size w w' := by
    have eg := enters_of Tryd.func94 (by kernel_rfl) rfl
    have hm1 := hr.2.1
    have hm2 := hr2.2.1
    have HR := Lk.mk hr
    have HR2 := Lk.mk hr2
    clear hr hr2
    by_cases hlen : l.length = m.length
    · rw [← hlen] at HR2 hm2 ⊢
      have HLEN := Lk.mk hlen
      clear hlen
      go_enter Tryd.func93, Tryd.ntmps93
      go_wp2
      go_loopg [17] l.length (fun gg v17 wr => ∃ k : Nat, k ≤ l.length ∧ l.length - k ≤ gg ∧ v17 = .int .i64 k ∧ Lk (SmTo dAf l m k) ∧ Lk (Below w.heap.size w wr))
      case atStart => exact ⟨0, by omega, by omega, rfl, ⟨SmTo.zero _ _ _⟩, ⟨Below.refl _ _⟩⟩
      case round =>
        obtain ⟨k, hk, hg, rfl, HE, HB⟩ := hrel
        by_cases hlt : k < l.length
        · have hltz : (k : Int) < (l.length : Int) := by omega
          obtain ⟨ad1, A1, c1, rfl, a0, a1, _, ha⟩ := kAf_at (Kd.C_below HR.out HB.out) k hlt
          obtain ⟨ad2, A2, c2, rfl, b0, b1, _, hb⟩ := kAf_at (Kd.C_below HR2.out HB.out) k hlt
          have HX := Lk.mk (fun h : l.getD k dAf = m.getD k dAf => HE.out.next h)
          have H := Lk.mk (sm_ne dAf l m k)
          generalize l.getD k dAf = x at *
          generalize m.getD k dAf = y at *
          have HBz := Lk.mk (below_alloc (Below.refl wr.heap.size wr) (.cells #[.int .i64 x.1, .slice A1 x.2.length c1] 124))
          have b0d := pw_cell_below HBz.out b0
          have b1d := pw_cell_below HBz.out b1
          have HBy := Lk.mk (below_alloc HBz.out (.cells #[.int .i64 y.1, .slice A2 y.2.length c2] 124))
          have HC := Lk.mk (msameLit_any x y A1 c1 A2 c2 _ (Kd.C_below ha HBy.out) (Kd.C_below hb HBy.out))
          clear ha hb
          obtain ⟨x0, x1⟩ := x
          obtain ⟨y0, y1⟩ := y
          dsimp only at *
          by_cases hxy : ((x0, x1) : Af) = (y0, y1)
          · rw [decide_eq_true hxy] at HC
            have HX2 := Lk.mk (HX.out hxy)
            clear hxy HX H
            go_wp2_with (go_at_call 94; (with_reducible refine (HC.out).mono ?_); rintro e w' ⟨rfl, hb⟩)
            go_roundg (l.length - (k + 1))
            case measure => omega
            case rel => exact ⟨k + 1, by omega, by omega, by go_num, HX2, ⟨below_then HB.out HB.out.size (below_then HBy.out HBy.out.size hb)⟩⟩
          · rw [decide_eq_false hxy] at HC
            have H2 := Lk.mk (H.out hxy)
            clear hxy HX H
            go_wp2_with (go_at_call 94; (with_reducible refine (HC.out).mono ?_); rintro e w' ⟨rfl, hb⟩)
            go_ret
            exact ⟨ret_bool (by rw [H2.out]), below_then HB.out HB.out.size (below_then HBy.out HBy.out.size hb)⟩
        · have hltz : ¬ (k : Int) < (l.length : Int) := by omega
          obtain rfl : k = l.length := by omega
          go_wp2
          go_ret
          exact ⟨ret_bool (sm_all dAf HLEN.out HE.out).symm, HB.out⟩
    · have hlz : ¬ (l.length : Int) = (m.length : Int) := by omega
      have H := Lk.mk (sm_len l m hlen)
      generalize decide (l = m) = r at *
      go_enter Tryd.func93, Tryd.ntmps93
      go_wp2
      go_ret
      exact ⟨ret_bool (by rw [H.out]), Below.refl _ _⟩
  have HF := Lk.mk HF
  clear hr hr2
  generalize decide (l = m) = r at *
  go_enter Tryd.func46, Tryd.ntmps46
  go_wp2_with (go_at_call 93; (with_reducible refine (HF.out).mono ?_); rintro e w1 ⟨rfl, hb⟩)
  go_ret
  exact ⟨rfl, hb⟩
def great19L (l : List Af) : Bool := decide (30 < l.length) || l.any fun f => decide (100 < f.2.length)
theorem great19_in {l : List Af} (h : great19L l = false) : l.length ≤ 30 ∧ ∀ f ∈ l, f.2.length ≤ 100 := by
  unfold great19L at h
  simp only [Bool.or_eq_false_iff, List.any_eq_false, decide_eq_false_iff_not, decide_eq_true_eq] at h
  exact ⟨by omega, fun f hf => by have := h.2 f hf; omega⟩
set_option maxRecDepth 100000 in
set_option maxHeartbeats 2000000 in
theorem great19_any (A : Option Addr) (c : Nat) (l : List Af) (w : World) (hr : kAf.C w A l.length l) :
    Calls Tryd.prog 37 #[.slice A l.length c] w fun e w' => e = .returned (.bool (great19L l)) ∧ w' = w := by
  have HR := Lk.mk hr
  have hm := hr.2.1
  clear hr
  by_cases h30 : 30 < l.length
  · have hz : (30 : Int) < (l.length : Int) := by omega
    have H := Lk.mk (show great19L l = true by unfold great19L; rw [decide_eq_true h30]; rfl)
    generalize great19L l = r at *
    go_enter Tryd.func37, Tryd.ntmps37
    go_wp2
    go_ret
    exact ⟨ret_bool (by rw [H.out]), rfl⟩
  · have hz : ¬ (30 : Int) < (l.length : Int) := by omega
    have HH := Lk.mk h30
    go_enter Tryd.func37, Tryd.ntmps37
    go_wp2
    go_loopg [9] l.length (fun gg v9 wr => ∃ k : Nat, k ≤ l.length ∧ l.length - k ≤ gg ∧ v9 = .int .i64 k ∧ Lk (∀ j, j < k → ¬ 100 < (l.getD j dAf).2.length) ∧ wr = w)
    case atStart => exact ⟨0, by omega, by omega, rfl, ⟨fun j hj => absurd hj (by omega)⟩, rfl⟩
    case round =>
      obtain ⟨k, hk, hg, rfl, HE, rfl⟩ := hrel
      by_cases hlt : k < l.length
      · have hltz : (k : Int) < (l.length : Int) := by omega
        obtain ⟨ad, A1, c1, rfl, hcell0, hcell1, hc1, _⟩ := kAf_at HR.out k hlt
        obtain ⟨f, hf⟩ : ∃ f, f = l.getD k dAf := ⟨_, rfl⟩
        rw [← hf] at hcell0 hcell1 hc1
        have HM := Lk.mk (show f ∈ l by rw [hf]; exact getD_mem _ hlt)
        have HF := Lk.mk hf
        clear hf
        by_cases h40 : 100 < f.2.length
        · have hz40 : (100 : Int) < (f.2.length : Int) := by omega
          have H := Lk.mk (show great19L l = true by unfold great19L; rw [List.any_eq_true.2 ⟨f, HM.out, decide_eq_true h40⟩, Bool.or_true])
          go_wp2
          go_ret
          exact ⟨ret_bool H.out.symm, rfl⟩
        · have hz40 : ¬ (100 : Int) < (f.2.length : Int) := by omega
          have H4 := Lk.mk h40
          go_wp2
          go_roundg (l.length - (k + 1))
          case measure => omega
          case rel =>
            refine ⟨k + 1, by omega, by omega, by go_num, ⟨fun j hj => ?_⟩, rfl⟩
            by_cases e : j = k
            · subst e; rw [← HF.out]; exact H4.out
            · exact HE.out j (by omega)
      · have hltz : ¬ (k : Int) < (l.length : Int) := by omega
        obtain rfl : k = l.length := by omega
        have H := Lk.mk (show great19L l = false by
          unfold great19L
          rw [decide_eq_false HH.out, Bool.false_or, List.any_eq_false]
          intro x hx
          obtain ⟨j, hj, rfl⟩ := List.getElem_of_mem hx
          have := HE.out j hj
          rw [List.getD_eq_getElem?_getD, List.getElem?_eq_getElem hj] at this
          simpa using this)
        go_wp2
        go_ret
        exact ⟨ret_bool H.out.symm, rfl⟩
end Go.Proofs.YtbikdngpannekaaDoor
