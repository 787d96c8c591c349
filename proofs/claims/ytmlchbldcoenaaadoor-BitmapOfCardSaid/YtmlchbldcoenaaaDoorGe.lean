/-
  The walks of the reference's In and Of; conditions: what is handed in reads as told.
-/
import Derived.Test.YtmlchbldcoenaaaDoorG3
import Derived.Test.YtmlchbldcoenaaaDoorGc
namespace Go.Proofs.YtmlchbldcoenaaaDoor
open Go.RowKit Go.Proofs.YtmlchbldcoenaaaDoorW.PrintWords

def inB (l : List Int) (n : Int) : Bool := l.contains n
set_option maxRecDepth 100000 in
set_option maxHeartbeats 2000000 in
theorem refIn_any (A : Option Addr) (c : Nat) (l : List Int) (n : Int) (w : World) (hr : ReadsInt w .i64 A l.length l) :
    Calls Tryd.prog 53 #[.slice A l.length c, .int .i64 n] w fun e w' => e = .returned (.bool (inB l n)) ∧ w' = w := by
  have HR := Lk.mk hr
  have hm := hr.2.1
  clear hr
  go_enter Tryd.func53, Tryd.ntmps53
  go_wp2
  go_loopg [8] l.length (fun gg v8 wr => ∃ k : Nat, k ≤ l.length ∧ l.length - k ≤ gg ∧ v8 = .int .i64 k ∧ Lk (∀ j, j < k → l.getD j 0 ≠ n) ∧ wr = w)
  case atStart => exact ⟨0, by omega, by omega, rfl, ⟨fun j hj => absurd hj (by omega)⟩, rfl⟩
  case round =>
    obtain ⟨k, hk, hg, rfl, HE, rfl⟩ := hrel
    by_cases hlt : k < l.length
    · have hltz : (k : Int) < (l.length : Int) := by omega
      obtain ⟨ad, rfl, hc⟩ := HR.out.at_ (k : Int) (by omega) hltz
      rw [Int.toNat_natCast, rd_n] at hc
      have HM := Lk.mk (getD_mem (0 : Int) hlt)
      have HN := Lk.mk (show l.getD k 0 ≠ n → ∀ j, j < k + 1 → l.getD j 0 ≠ n from fun h j hj => by
        by_cases e : j = k
        · subst e; exact h
        · exact HE.out j (by omega))
      generalize l.getD k 0 = x at *
      by_cases hx : x = n
      · have HQ := Lk.mk (show inB l n = true by unfold inB; rw [List.contains_iff_mem, ← hx]; exact HM.out)
        subst hx
        clear HN
        go_wp2
        go_ret
        exact ⟨ret_bool HQ.out.symm, rfl⟩
      · have hb : (x == n) = false := by simpa using hx
        have HX := Lk.mk (HN.out hx)
        clear hx HN
        go_wp2
        go_roundg (l.length - (k + 1))
        case measure => omega
        case rel => exact ⟨k + 1, by omega, by omega, by go_num, HX, rfl⟩
    · have hltz : ¬ (k : Int) < (l.length : Int) := by omega
      obtain rfl : k = l.length := by omega
      have HQ := Lk.mk (show inB l n = false by
        unfold inB
        cases hc : l.contains n with
        | false => rfl
        | true =>
          obtain ⟨j, hj, e⟩ := List.getElem_of_mem (List.contains_iff_mem.1 hc)
          exact absurd (by rw [List.getD_eq_getElem?_getD, List.getElem?_eq_getElem hj]; exact e) (HE.out j hj))
      go_wp2
      go_ret
      exact ⟨ret_bool HQ.out.symm, rfl⟩

set_option maxRecDepth 100000 in
set_option maxHeartbeats 2000000 in
theorem refOf_any (A : Option Addr) (c : Nat) (l : List Int) (w : World) (hr : ReadsInt w .i64 A l.length l) :
    Calls Tryd.prog 33 #[.slice A l.length c] w fun e w' => ∃ v, e = .returned v ∧ w'.ownsRow w.heap.size 23 1 v (Bm.refTo l (Bm.refN l)).length (nums .u64 (Bm.refTo l (Bm.refN l))) ∧ Below w.heap.size w w' := by
  have HR := Lk.mk hr
  have hm := hr.2.1
  clear hr
  go_enter Tryd.func33, Tryd.ntmps33
  go_wp2
  go_loopg [3, 11] l.length (fun gg v3 v11 wr => ∃ (k : Nat) (m : Int), k ≤ l.length ∧ l.length - k ≤ gg ∧ v11 = .int .i64 k ∧ v3 = .int .i64 m ∧ Lk (m = Bm.mostL (l.take k)) ∧ wr = w)
  case atStart => exact ⟨0, -1, by omega, by omega, rfl, rfl, ⟨rfl⟩, rfl⟩
  case round =>
    obtain ⟨k, m, hk, hg, rfl, rfl, HE, rfl⟩ := hrel
    by_cases hlt : k < l.length
    · have hltz : (k : Int) < (l.length : Int) := by omega
      obtain ⟨ad, rfl, hc⟩ := HR.out.at_ (k : Int) (by omega) hltz
      rw [Int.toNat_natCast, rd_n] at hc
      have HX := Lk.mk (show Bm.mostL (l.take (k + 1)) = if 0 ≤ l.getD k 0 ∧ l.getD k 0 < 4096 ∧ Bm.mostL (l.take k) < l.getD k 0 then l.getD k 0 else Bm.mostL (l.take k) by rw [take_one hlt, Bm.most_snoc])
      rw [← HE.out] at HX
      generalize l.getD k 0 = x at *
      by_cases hx : 0 ≤ x ∧ x < 4096 ∧ m < x
      · rw [if_pos hx] at HX
        obtain ⟨x0, x1, x2⟩ := hx
        go_wp2
        go_roundg (l.length - (k + 1))
        case measure => omega
        case rel => exact ⟨k + 1, x, by omega, by omega, by go_num, rfl, ⟨HX.out.symm⟩, rfl⟩
      · rw [if_neg hx] at HX
        by_cases x0 : 0 ≤ x
        · by_cases x1 : x < 4096
          · have x2 : x ≤ m := by omega
            clear hx
            go_wp2
            go_roundg (l.length - (k + 1))
            case measure => omega
            case rel => exact ⟨k + 1, m, by omega, by omega, by go_num, rfl, ⟨HX.out.symm⟩, rfl⟩
          · have x1' : 4096 ≤ x := by omega
            clear hx x1
            go_wp2
            go_roundg (l.length - (k + 1))
            case measure => omega
            case rel => exact ⟨k + 1, m, by omega, by omega, by go_num, rfl, ⟨HX.out.symm⟩, rfl⟩
        · have x0' : x < 0 := by omega
          clear hx x0
          go_wp2
          go_roundg (l.length - (k + 1))
          case measure => omega
          case rel => exact ⟨k + 1, m, by omega, by omega, by go_num, rfl, ⟨HX.out.symm⟩, rfl⟩
    · have hltz : ¬ (k : Int) < (l.length : Int) := by omega
      obtain rfl : k = l.length := by omega
      rw [List.take_length] at HE
      obtain ⟨m1, m2, _⟩ := Bm.most_in l
      rw [← HE.out] at m1 m2
      have HN := Lk.mk (show Bm.refN l = (m / 64 + 1).toNat by unfold Bm.refN; rw [HE.out])
      obtain ⟨wo, rfl⟩ : ∃ wo : World, wo = wr := ⟨_, rfl⟩
      go_wp2
      go_loopg [5, 6] 64 (fun gg v5 v6 wr => ∃ k : Nat, k ≤ Bm.refN l ∧ 64 - k ≤ gg ∧ v6 = .int .i64 k ∧ Lk (wr.ownsRow wo.heap.size 23 1 v5 (Bm.refTo l k).length (nums .u64 (Bm.refTo l k))) ∧ Lk (Below wo.heap.size wo wr))
      case atStart => exact ⟨0, by omega, by omega, rfl, ⟨own_lit wo wo.heap.size 23 .u64 [] (Nat.le_refl _) (by simp)⟩, ⟨below_alloc (Below.refl _ _) _⟩⟩
      case round =>
        obtain ⟨k, hk, hg, rfl, HO, HB⟩ := hrel
        obtain ⟨wp, rfl⟩ : ∃ wp : World, wp = wr := ⟨_, rfl⟩
        have hnn := HN.out
        by_cases hlt : 64 * (k : Int) ≤ m
        · have HIN := Lk.mk (fun W n (hb : Below wp.heap.size wp W) => refIn_any A c l n W ((HR.out.below HB.out).below hb))
          have hk63 : k ≤ 63 := by omega
          have HWX := Lk.mk (fun t => Bm.wx_bits (fun j => l.contains (((64 * k + j : Nat)) : Int)) t)
          have HST := Lk.mk (fun t => show Bm.wx (fun j => l.contains (((64 * k + j : Nat)) : Int)) (t + 1) = 2 * Bm.wx (fun j => l.contains (((64 * k + j : Nat)) : Int)) t + (l.contains (((64 * k + (63 - t) : Nat)) : Int)).toNat from rfl)
          have HEND := Lk.mk (show Bm.refTo l (k + 1) = Bm.refTo l k ++ [((Bm.wx (fun j => l.contains (((64 * k + j : Nat)) : Int)) 64 : Nat) : Int)] from Bm.refTo_succ l k)
          have HRL := Lk.mk (Bm.refTo_length l k)
          have HRL1 := Lk.mk (Bm.refTo_length l (k + 1))
          generalize Bm.wx (fun j => l.contains (((64 * k + j : Nat)) : Int)) = X at *
          go_wp2
          go_loopg [7, 8] 64 (fun gi v7 v8 wi => ∃ t : Nat, t ≤ 64 ∧ 64 - t ≤ gi ∧ v7 = .int .u64 ((X t : Nat) : Int) ∧ v8 = .int .i64 (63 - (t : Int)) ∧ wi = wp)
          case atStart => exact ⟨0, by omega, by omega, by rw [show X 0 = 0 by have := (HWX.out 0 (by omega)).1; omega]; rfl, rfl, rfl⟩
          case round =>
            obtain ⟨t, ht, hgi, rfl, rfl, rfl⟩ := hrel
            by_cases h64 : t = 64
            · subst h64
              have hq : (63 : Int) - ((64 : Nat) : Int) < 0 := by omega
              have hX64 := (HWX.out 64 (by omega)).1
              generalize X 64 = x at *
              go_wp2_with (at_builtin; refine print_append_num (w0 := wo) wo.heap.size rfl _ _ 26 23 .u64 8 rfl Tryd.underlying26 info23 (by decide) u5 (Bm.refTo l k) (x : Int) rfl rfl HO.out HB.out HB.out.size (by have := HRL.out; omega) ?_; intro v1 w1 hown hb _ _; have HO1 := Lk.mk hown; have HB1 := Lk.mk hb; clear hown hb)
              go_roundg (64 - (k + 1))
              case measure => omega
              case rel => exact ⟨k + 1, by omega, by omega, by go_num, ⟨by rw [HEND.out]; exact HO1.out⟩, HB1⟩
            · have hq : ¬ (63 : Int) - (t : Int) < 0 := by omega
              have hq0 : 0 ≤ (63 : Int) - (t : Int) := by omega
              have hXt := (HWX.out t ht).1
              have hp : 2 ^ t ≤ 2 ^ 63 := Nat.pow_le_pow_right (by omega) (by omega)
              have hxb : ((X t : Nat) : Int) < 9223372036854775808 := by
                have h63 : (2 : Nat) ^ 63 = 9223372036854775808 := (by decide)
                omega
              have hS := HST.out t
              have hI := HIN.out wr (64 * (k : Int) + (63 - (t : Int))) (Below.refl _ _)
              have he : inB l (64 * (k : Int) + (63 - (t : Int))) = l.contains (((64 * k + (63 - t) : Nat)) : Int) := by
                unfold inB
                rw [show 64 * (k : Int) + (63 - (t : Int)) = (((64 * k + (63 - t) : Nat)) : Int) by omega]
              rw [he] at hI
              have HI := Lk.mk hI
              have HS := Lk.mk hS
              clear hXt hp hI hS he
              generalize X t = x at *
              have hw1 : IntKind.u64.wrap (2 * (x : Int)) = 2 * (x : Int) := by rw [IntKind.wrap_u64]; omega
              have hw2 : IntKind.u64.wrap (2 * (x : Int) + 1) = 2 * (x : Int) + 1 := by rw [IntKind.wrap_u64]; omega
              have hlt2 : t < 64 := by omega
              clear h64 hxb
              cases hc : l.contains (((64 * k + (63 - t) : Nat)) : Int) with
              | true =>
                rw [hc] at HI HS
                have HS2 := Lk.mk (show ((X (t + 1) : Nat) : Int) = 2 * (x : Int) + 1 by have := HS.out; rw [Bool.toNat_true] at this; omega)
                clear hc
                go_wp2_with (go_at_call 53; (with_reducible refine (HI.out).mono ?_); rintro e w' ⟨rfl, hw⟩; obtain rfl := hw.symm; clear hw)
                go_roundg (64 - (t + 1))
                case measure => omega
                case rel => exact ⟨t + 1, by omega, by omega, by rw [HS2.out], by rw [show (63 : Int) - ((t + 1 : Nat) : Int) = 63 - (t : Int) - 1 by omega], rfl⟩
              | false =>
                rw [hc] at HI HS
                have HS2 := Lk.mk (show ((X (t + 1) : Nat) : Int) = 2 * (x : Int) by have := HS.out; rw [Bool.toNat_false] at this; omega)
                clear hc
                go_wp2_with (go_at_call 53; (with_reducible refine (HI.out).mono ?_); rintro e w' ⟨rfl, hw⟩; obtain rfl := hw.symm; clear hw)
                go_roundg (64 - (t + 1))
                case measure => omega
                case rel => exact ⟨t + 1, by omega, by omega, by rw [HS2.out], by rw [show (63 : Int) - ((t + 1 : Nat) : Int) = 63 - (t : Int) - 1 by omega], rfl⟩
        · have hlt' : m < 64 * (k : Int) := by omega
          obtain rfl : k = Bm.refN l := by omega
          clear hlt
          go_wp2
          go_ret
          exact ⟨_, rfl, HO.out, HB.out⟩
end Go.Proofs.YtmlchbldcoenaaaDoor
