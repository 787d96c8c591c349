/-
  The walks of the reference's Same, of the library's Equal at words, of bitmap.Same and of tight; conditions: what is handed in reads as told.
-/
import Derived.Test.YtmlchbldcoenaaaDoorG2
import Derived.Test.YtmlchbldcoenaaaDoorBv
namespace Go.Proofs.YtmlchbldcoenaaaDoor
open Go.RowKit Go.Proofs.YtmlchbldcoenaaaDoorW.PrintWords

set_option maxRecDepth 100000 in
set_option maxHeartbeats 2000000 in
theorem same03_any (A : Option Addr) (c : Nat) (l : List Int) (B : Option Addr) (d : Nat) (m : List Int) (w : World) (hr : ReadsInt w .u64 A l.length l) (hr2 : ReadsInt w .u64 B m.length m) :
    Calls Tryd.prog 35 #[.slice A l.length c, .slice B m.length d] w fun e w' => e = .returned (.bool (Bm.sameB l m)) ∧ w' = w := by
  cases hs : Bm.sameB l m with
  | true => exact same03_true A c l B d m w hr hr2 ((Bm.sameB_iff l m).1 hs)
  | false =>
    have hm1 := hr.2.1
    have hm2 := hr2.2.1
    have HR := Lk.mk hr
    have HR2 := Lk.mk hr2
    have H := Lk.mk (show ¬ ∀ k, l.getD k 0 = m.getD k 0 from fun h => by rw [(Bm.sameB_iff l m).2 h] at hs; cases hs)
    clear hr hr2 hs
    go_enter Tryd.func35, Tryd.ntmps35
    go_wp2
    go_loopg [5] (l.length + m.length) (fun gg v5 wr => ∃ k : Nat, (k ≤ l.length ∨ k ≤ m.length) ∧ l.length + m.length - k ≤ gg ∧ v5 = .int .i64 k ∧ Lk (∀ j, j < k → l.getD j 0 = m.getD j 0) ∧ wr = w)
    case atStart => exact ⟨0, by omega, by omega, rfl, ⟨fun j hj => absurd hj (by omega)⟩, rfl⟩
    case round =>
      obtain ⟨k, hk, hg, rfl, HE, rfl⟩ := hrel
      have HN := Lk.mk (show l.getD k 0 = m.getD k 0 → ∀ j, j < k + 1 → l.getD j 0 = m.getD j 0 from fun h j hj => by
        by_cases e : j = k
        · subst e; exact h
        · exact HE.out j (by omega))
      by_cases h1 : k < l.length
      · have h1z : (k : Int) < (l.length : Int) := by omega
        obtain ⟨ad1, rfl, hc1⟩ := HR.out.at_ (k : Int) (by omega) h1z
        rw [Int.toNat_natCast, rd_n] at hc1
        by_cases h2 : k < m.length
        · have h2z : (k : Int) < (m.length : Int) := by omega
          obtain ⟨ad2, rfl, hc2⟩ := HR2.out.at_ (k : Int) (by omega) h2z
          rw [Int.toNat_natCast, rd_n] at hc2
          generalize l.getD k 0 = x at *
          generalize m.getD k 0 = y at *
          by_cases hxy : x = y
          · subst hxy
            go_wp2
            go_roundg (l.length + m.length - (k + 1))
            case measure => omega
            case rel => exact ⟨k + 1, by omega, by omega, by go_num, ⟨HN.out (by first | rfl | trivial)⟩, rfl⟩
          · have hb : (x != y) = true := by simpa using hxy
            clear hxy HN
            go_wp2
            go_ret
            exact ⟨rfl, rfl⟩
        · have h2z : ¬ (k : Int) < (m.length : Int) := by omega
          have hp := getD_past m k h2
          rw [hp] at HN
          clear hp
          generalize l.getD k 0 = x at *
          by_cases hxy : x = 0
          · subst hxy
            go_wp2
            go_roundg (l.length + m.length - (k + 1))
            case measure => omega
            case rel => exact ⟨k + 1, by omega, by omega, by go_num, ⟨HN.out (by first | rfl | trivial)⟩, rfl⟩
          · have hb : (x != 0) = true := by simpa using hxy
            clear hxy HN
            go_wp2
            go_ret
            exact ⟨rfl, rfl⟩
      · have h1z : ¬ (k : Int) < (l.length : Int) := by omega
        have hp := getD_past l k h1
        rw [hp] at HN
        clear hp
        by_cases h2 : k < m.length
        · have h2z : (k : Int) < (m.length : Int) := by omega
          obtain ⟨ad2, rfl, hc2⟩ := HR2.out.at_ (k : Int) (by omega) h2z
          rw [Int.toNat_natCast, rd_n] at hc2
          generalize m.getD k 0 = y at *
          by_cases hxy : y = 0
          · subst hxy
            go_wp2
            go_roundg (l.length + m.length - (k + 1))
            case measure => omega
            case rel => exact ⟨k + 1, by omega, by omega, by go_num, ⟨HN.out (by first | rfl | trivial)⟩, rfl⟩
          · have hb : ((0 : Int) != y) = true := by simp; omega
            clear hxy HN
            go_wp2
            go_ret
            exact ⟨rfl, rfl⟩
        · have h2z : ¬ (k : Int) < (m.length : Int) := by omega
          exfalso
          apply H.out
          intro j
          by_cases hj : j < k
          · exact HE.out j hj
          · rw [getD_past l j (by omega), getD_past m j (by omega)]

set_option maxRecDepth 100000 in
set_option maxHeartbeats 2000000 in
theorem equal64_any (A : Option Addr) (c : Nat) (l : List Int) (B : Option Addr) (d : Nat) (m : List Int) (w : World) (hr : ReadsInt w .u64 A l.length l) (hr2 : ReadsInt w .u64 B m.length m) :
    Calls Tryd.prog 60 #[.slice A l.length c, .slice B m.length d] w fun e w' => e = .returned (.bool (decide (l = m))) ∧ Below w.heap.size w w' := by
  have hm1 := hr.2.1
  have hm2 := hr2.2.1
  have HR := Lk.mk hr
  have HR2 := Lk.mk hr2
  clear hr hr2
  by_cases hlen : l.length = m.length
  · rw [← hlen] at HR2 hm2 ⊢
    have HLEN := Lk.mk hlen
    clear hlen
    go_enter Tryd.func60, Tryd.ntmps60
    go_wp2
    go_loopg [5, 13] l.length (fun gg _ v13 wr => ∃ k : Nat, k ≤ l.length ∧ l.length - k ≤ gg ∧ v13 = .int .i64 k ∧ Lk (∀ j, j < k → l.getD j 0 = m.getD j 0) ∧ Lk (Below w.heap.size w wr))
    case atStart => exact ⟨0, by omega, by omega, rfl, ⟨fun j hj => absurd hj (by omega)⟩, ⟨Below.refl _ _⟩⟩
    case round =>
      obtain ⟨k, hk, hg, rfl, HE, HB⟩ := hrel
      obtain ⟨wo, rfl⟩ : ∃ wo : World, wo = wr := ⟨_, rfl⟩
      by_cases hlt : k < l.length
      · have hltz : (k : Int) < (l.length : Int) := by omega
        obtain ⟨ad1, rfl, hc1⟩ := (HR.out.below HB.out).at_ (k : Int) (by omega) hltz
        obtain ⟨ad2, rfl, hc2⟩ := (HR2.out.below HB.out).at_ (k : Int) (by omega) hltz
        rw [Int.toNat_natCast, rd_n] at hc1 hc2
        have HX := Lk.mk (show l.getD k 0 = m.getD k 0 → ∀ j, j < k + 1 → l.getD j 0 = m.getD j 0 from fun h j hj => by
          by_cases e : j = k
          · subst e; exact h
          · exact HE.out j (by omega))
        have H := Lk.mk (ints_at l k m)
        generalize l.getD k 0 = x at *
        generalize m.getD k 0 = y at *
        have hd1 := pw_cell_below (below_drew (Below.refl wo.heap.size wo)) hc1
        have hd2 := pw_cell_below (below_drew (Below.refl wo.heap.size wo)) hc2
        by_cases hxy : x = y
        · subst hxy
          go_wp2
          go_region
          go_wp2
          go_roundg (l.length - (k + 1))
          case measure => omega
          case rel => exact ⟨k + 1, by omega, by omega, by go_num, ⟨HX.out (by first | rfl | trivial)⟩, ⟨below_drew HB.out⟩⟩
        · have H2 := Lk.mk (H.out hxy)
          have hb : (x != y) = true := by simpa using hxy
          clear hxy HX H
          go_wp2
          go_region
          go_wp2
          go_ret
          exact ⟨ret_bool (by rw [H2.out]), below_drew HB.out⟩
      · have hltz : ¬ (k : Int) < (l.length : Int) := by omega
        obtain rfl : k = l.length := by omega
        go_wp2
        go_ret
        refine ⟨ret_bool ?_, HB.out⟩
        symm
        apply decide_eq_true
        apply List.ext_getElem HLEN.out
        intro j h1 h2
        have := HE.out j h1
        rwa [List.getD_eq_getElem?_getD, List.getElem?_eq_getElem h1, List.getD_eq_getElem?_getD, List.getElem?_eq_getElem h2] at this
  · have hlz : ¬ (l.length : Int) = (m.length : Int) := by omega
    have H := Lk.mk (show decide (l = m) = false from decide_eq_false (fun e => hlen (by rw [e])))
    generalize decide (l = m) = r at *
    go_enter Tryd.func60, Tryd.ntmps60
    go_wp2
    go_ret
    exact ⟨ret_bool (by rw [H.out]), Below.refl _ _⟩

theorem reads_cut {w : World} {A : Option Addr} {l : List Int} (h : ReadsInt w .u64 A l.length l) : ReadsInt w .u64 A (Bm.cutL l).length (Bm.cutL l) := by
  have h1 := h.take_ (Bm.cutL l).length (Bm.cut_length l)
  rwa [← Bm.cut_take] at h1
set_option maxRecDepth 100000 in
set_option maxHeartbeats 2000000 in
theorem bsame_any (A : Option Addr) (c : Nat) (l : List Int) (B : Option Addr) (d : Nat) (m : List Int) (w : World) (hr : ReadsInt w .u64 A l.length l) (hr2 : ReadsInt w .u64 B m.length m) (hc : l.length ≤ c) (hd : m.length ≤ d) :
    Calls Tryd.prog 43 #[.slice A l.length c, .slice B m.length d] w fun e w' => e = .returned (.bool (Bm.sameB l m)) ∧ Below w.heap.size w w' := by
  have H1 := Lk.mk (fun W (hb : W = w) => cut_any A c l W (hb ▸ hr) hc)
  have H2 := Lk.mk (fun W (hb : W = w) => cut_any B d m W (hb ▸ hr2) hd)
  have HE := Lk.mk (equal64_any A c (Bm.cutL l) B d (Bm.cutL m) w (reads_cut hr) (reads_cut hr2))
  have HS := Lk.mk (Bm.same_cut l m)
  clear hr hr2 hc hd
  generalize Bm.sameB l m = r at *
  generalize decide (Bm.cutL l = Bm.cutL m) = q at *
  go_enter Tryd.func43, Tryd.ntmps43
  go_wp2_with (first
    | (go_at_call 59; (with_reducible refine (H1.out _ rfl).mono ?_); rintro e w' ⟨rfl, hw⟩; obtain rfl := hw.symm; clear hw)
    | (go_at_call 59; (with_reducible refine (H2.out _ rfl).mono ?_); rintro e w' ⟨rfl, hw⟩; obtain rfl := hw.symm; clear hw)
    | (go_at_call 60; (with_reducible refine (HE.out).mono ?_); rintro e w' ⟨rfl, hb⟩))
  go_ret
  exact ⟨ret_bool (by rw [HS.out]), hb⟩
set_option maxRecDepth 100000 in
set_option maxHeartbeats 2000000 in
theorem tight_any (A : Option Addr) (c : Nat) (l : List Int) (w : World) (hr : ReadsInt w .u64 A l.length l) :
    Calls Tryd.prog 36 #[.slice A l.length c] w fun e w' => e = .returned (.bool (Bm.tightL l)) ∧ w' = w := by
  have hm := hr.2.1
  have H := Lk.mk (show Bm.tightL l = (decide (l.length = 0) || decide (l.getD (l.length - 1) 0 ≠ 0)) from rfl)
  by_cases h0 : l.length = 0
  · have h0z : ((l.length : Int) == 0) = true := by simp; exact List.eq_nil_of_length_eq_zero h0
    have H2 := Lk.mk (show Bm.tightL l = true by rw [H.out, decide_eq_true h0]; rfl)
    clear hr H h0
    generalize Bm.tightL l = r at *
    go_enter Tryd.func36, Tryd.ntmps36
    go_wp2
    go_ret
    exact ⟨ret_bool H2.out.symm, rfl⟩
  · obtain ⟨k, hk⟩ : ∃ k, l.length = k + 1 := ⟨l.length - 1, by omega⟩
    have h0z : ((l.length : Int) == 0) = false := by simp; intro h; subst h; simp at h0
    obtain ⟨ad, rfl, hc⟩ := hr.at_ (k : Int) (by omega) (by omega)
    rw [Int.toNat_natCast, rd_n] at hc
    have hk1 : (l.length : Int) - 1 = (k : Int) := by omega
    have H2 := Lk.mk (show Bm.tightL l = decide (l.getD k 0 ≠ 0) by rw [H.out, decide_eq_false h0, Bool.false_or, hk, Nat.add_sub_cancel])
    have hkl : (k : Int) < (l.length : Int) := by omega
    clear hr H h0 hk
    generalize Bm.tightL l = r at *
    generalize l.getD k 0 = x at *
    go_enter Tryd.func36, Tryd.ntmps36
    go_wp2
    go_ret
    refine ⟨ret_bool ?_, rfl⟩
    rw [H2.out]
    simp
    rfl
end Go.Proofs.YtmlchbldcoenaaaDoor
