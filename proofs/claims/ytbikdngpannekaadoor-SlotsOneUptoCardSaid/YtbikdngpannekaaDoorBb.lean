/-
  The walks of bitmap.Bits and bitmap.Count; conditions: the words read as told, and there are at most 2^37 of them.
-/
import Derived.Test.YtbikdngpannekaaDoorBa
namespace Go.Proofs.YtbikdngpannekaaDoor
open Go.RowKit Go.Proofs.YtbikdngpannekaaDoorW.PrintWords

theorem take_snoc {l : List Int} {k : Nat} (h : k < l.length) : l.take (k + 1) = l.take k ++ [l.getD k 0] := by
  rw [List.take_succ_eq_append_getElem h, List.getD_eq_getElem?_getD, List.getElem?_eq_getElem h]; rfl
theorem bits_more {l : List Int} {k : Nat} (n : Int) (h : k < l.length) : Bm.bitsL (l.take (k + 1)) n = Bm.bitsL (l.take k) n ++ Bm.wordBits k (l.getD k 0).toNat n := by
  rw [take_snoc h, Bm.bitsL_snoc, List.length_take, Nat.min_eq_left (by omega)]
theorem wordBits_zero (k : Nat) (n : Int) : Bm.wordBits k 0 n = [] := by unfold Bm.wordBits; rw [Bm.bitsW_zero]; rfl
theorem wordBits_step (k x : Nat) (n : Int) (hx : x < 18446744073709551616) (h0 : x ≠ 0) :
    Lib.ctz 64 x < 64 ∧ Bm.wordBits k x n = (if ((64 * k + Lib.ctz 64 x : Nat) : Int) < n then [((64 * k + Lib.ctz 64 x : Nat) : Int)] else []) ++ Bm.wordBits k (x &&& (x - 1)) n ∧ x &&& (x - 1) < x := by
  obtain ⟨m, e, _⟩ := Lib.ctzFrom_spec 64 x (by omega) hx
  have ek : Lib.ctz 64 x = Lib.ctzFrom 64 x := by unfold Lib.ctz; rw [if_neg h0]
  rw [← ek] at e
  obtain ⟨h1, h2, h3⟩ := Bm.bitsW_step x (Lib.ctz 64 x) m hx e
  refine ⟨h1, ?_, h3⟩
  unfold Bm.wordBits
  rw [h2, List.map_cons, List.filter_cons]
  by_cases h : ((64 * k + Lib.ctz 64 x : Nat) : Int) < n
  · rw [if_pos (by simpa using h), if_pos h]; rfl
  · rw [if_neg (by simpa using h), if_neg h]; rfl
theorem wordBits_length (k x : Nat) (n : Int) : (Bm.wordBits k x n).length ≤ 64 := by
  unfold Bm.wordBits
  rw [List.length_map]
  refine Nat.le_trans (List.length_filter_le _ _) ?_
  rw [List.length_map]; exact Bm.bitsW_length x

set_option maxHeartbeats 2000000 in
theorem bits_any (A : Option Addr) (c : Nat) (l : List Int) (n : Int) (w : World) (hr : ReadsInt w .u64 A l.length l) (hw : Bm.Words l) (hl : l.length ≤ 137438953472) (hT : Tab w) :
    Calls Tryd.prog 66 #[.slice A l.length c, .int .i64 n] w fun e w' => ∃ v, e = .returned v ∧ w'.ownsRow w.heap.size 3 1 v (Bm.bitsL l n).length (nums .i64 (Bm.bitsL l n)) ∧ Below w.heap.size w w' := by
  have HR := Lk.mk hr
  have HW := Lk.mk hw
  have HT := Lk.mk hT
  have hm := hr.2.1
  clear hr hw hT
  go_enter Tryd.func66, Tryd.ntmps66
  go_wp2
  go_loopg [5, 6, 7, 8, 11] l.length (fun gg v5 _ _ _ v11 wr => ∃ kk : Nat, kk ≤ l.length ∧ l.length - kk ≤ gg ∧ v11 = .int .i64 kk ∧ Lk (wr.ownsRow w.heap.size 3 1 v5 (Bm.bitsL (l.take kk) n).length (nums .i64 (Bm.bitsL (l.take kk) n))) ∧ Lk (Below w.heap.size w wr))
  case atStart => exact ⟨0, by omega, by omega, rfl, ⟨own_nil _ _ _ _⟩, ⟨Below.refl _ _⟩⟩
  case round =>
    obtain ⟨kk, hk, hg, rfl, HO, HB⟩ := hrel
    by_cases hlt : kk < l.length
    · obtain ⟨ad, rfl, hcell0⟩ := (HR.out.below HB.out).at_ (kk : Int) (by omega) (by omega)
      rw [Int.toNat_natCast] at hcell0
      obtain ⟨x0, hx0, hx1⟩ : ∃ x : Nat, rd l kk = (x : Int) ∧ x < 18446744073709551616 := by
        have := HW.out (rd l kk) (by unfold rd; rw [Int.toNat_natCast, List.getD_eq_getElem?_getD, List.getElem?_eq_getElem hlt]; exact List.getElem_mem hlt)
        exact ⟨(rd l kk).toNat, by omega, by omega⟩
      have HX := Lk.mk (show (l.getD kk 0).toNat = x0 by unfold rd at hx0; rw [Int.toNat_natCast] at hx0; omega)
      rw [hx0] at hcell0
      clear hx0
      have hltz : (kk : Int) < (l.length : Int) := by omega
      have hkb : kk ≤ 137438953472 := by omega
      clear hl
      obtain ⟨wo, rfl⟩ : ∃ wo : World, wo = wr := ⟨_, rfl⟩
      go_wp2
      go_loopg [5, 7, 8] x0 (fun gx v5 v7 _ wi => ∃ (x : Nat) (done : List Int), v7 = .int .u64 x ∧ x ≤ gx ∧ x < 18446744073709551616 ∧ Lk (Bm.wordBits kk x0 n = done ++ Bm.wordBits kk x n) ∧ Lk (wi.ownsRow w.heap.size 3 1 v5 (Bm.bitsL (l.take kk) n ++ done).length (nums .i64 (Bm.bitsL (l.take kk) n ++ done))) ∧ Lk (Below w.heap.size w wi))
      case atStart => exact ⟨x0, [], rfl, Nat.le_refl _, hx1, ⟨rfl⟩, ⟨by simpa using HO.out⟩, HB⟩
      case round =>
        obtain ⟨x, done, rfl, hgx, hxl, HD, HI, HBI⟩ := hrel
        by_cases h0 : x = 0
        · subst h0
          clear hcell0
          go_wp2
          go_roundg (l.length - (kk + 1))
          case measure => omega
          case rel =>
            have e : Bm.bitsL (l.take (kk + 1)) n = Bm.bitsL (l.take kk) n ++ done := by
              rw [bits_more n hlt, HX.out, HD.out, wordBits_zero, List.append_nil]
            exact ⟨kk + 1, by omega, by omega, by go_num, ⟨by rw [e]; exact HI.out⟩, HBI⟩
        · obtain ⟨hk64, hws, hxd⟩ := wordBits_step kk x n hxl h0
          have HZ := Lk.mk (fun w' (hb : Below w.heap.size w w') => tz_any x hxl h0 w' (HT.out.below hb))
          have hne : ((x : Int) != 0) = true := by simp; omega
          have hx2 : bits .and .u64 (x : Int) ((x : Int) - 1) = ((x &&& (x - 1) : Nat) : Int) := by
            rw [show (x : Int) - 1 = ((x - 1 : Nat) : Int) by omega, u64_and_nat _ _ hxl (by omega)]
          have hwr : IntKind.u64.wrap ((x : Int) - 1) = (x : Int) - 1 := by rw [IntKind.wrap_u64]; omega
          have hlen : (Bm.bitsL (l.take kk) n ++ done).length ≤ 9000000000000 := by
            have h1 := Bm.bitsL_length (l.take kk) n
            have h2 := wordBits_length kk x0 n
            rw [HD.out, List.length_append] at h2
            rw [List.length_take] at h1
            rw [List.length_append]; omega
          have HW2 := Lk.mk hws
          generalize Lib.ctz 64 x = k at *
          clear hws
          have hy : x &&& (x - 1) < 18446744073709551616 := by omega
          generalize x &&& (x - 1) = y at *
          clear hcell0
          by_cases hin : (64 * (kk : Int) + (k : Int)) < n
          · go_wp2_with (first | (go_at_call 117; (with_reducible refine (HZ.out _ HBI.out).mono ?_); rintro e w' ⟨rfl, rfl⟩) | (at_builtin; go_loud (refine print_append_num (w0 := w) w.heap.size rfl _ _ 97 3 .i64 8 rfl Tryd.underlying97 info3 (by decide) u5 (Bm.bitsL (l.take kk) n ++ done) (64 * (kk : Int) + (k : Int)) rfl rfl HI.out HBI.out HBI.out.size (by omega) ?_); intro v1 w1 hown hb _ _; have HO1 := Lk.mk hown; have HB1 := Lk.mk hb; clear hown hb))
            go_roundg y
            case measure => omega
            case rel => exact ⟨y, done ++ [64 * (kk : Int) + (k : Int)], rfl, by omega, by omega, ⟨by rw [HD.out, HW2.out, if_pos (by omega)]; simp⟩, ⟨by rw [← List.append_assoc]; exact HO1.out⟩, HB1⟩
          · go_wp2_with (go_at_call 117; (with_reducible refine (HZ.out _ HBI.out).mono ?_); rintro e w' ⟨rfl, rfl⟩)
            go_roundg y
            case measure => omega
            case rel => exact ⟨y, done, rfl, by omega, by omega, ⟨by rw [HD.out, HW2.out, if_neg (by omega)]; rfl⟩, HI, HBI⟩
    · have hltz : ¬ (kk : Int) < (l.length : Int) := by omega
      obtain rfl : kk = l.length := by omega
      go_wp2
      go_ret
      exact ⟨_, rfl, by have := HO.out; rw [List.take_length] at this; exact this, HB.out⟩

theorem count_any (A : Option Addr) (c : Nat) (l : List Int) (n : Int) (w : World) (hr : ReadsInt w .u64 A l.length l) (hw : Bm.Words l) (hl : l.length ≤ 137438953472) (hT : Tab w) :
    Calls Tryd.prog 144 #[.slice A l.length c, .int .i64 n] w fun e w' => e = .returned (.int .i64 ((Bm.bitsL l n).length : Nat)) ∧ Below w.heap.size w w' := by
  have HB := Lk.mk (bits_any A c l n w hr hw hl hT)
  clear hr hw hl hT
  go_enter Tryd.func144, Tryd.ntmps144
  go_wp2_with (go_at_call 66; (with_reducible refine HB.out.mono ?_); rintro e w' ⟨v, rfl, ho, hb⟩; obtain ⟨A1, c1, rfl, _⟩ := own_reads ho)
  go_ret
  exact ⟨rfl, hb⟩
end Go.Proofs.YtbikdngpannekaaDoor
