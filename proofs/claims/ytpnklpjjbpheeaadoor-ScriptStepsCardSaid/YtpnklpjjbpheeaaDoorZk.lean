/-
  The walks of the reference's in, Words and Value of scripts; words' texts; conditions: none.
-/
import Derived.Test.YtpnklpjjbpheeaaDoorZj
import Derived.Test.YtpnklpjjbpheeaaDoorYd
import Derived.Test.YtpnklpjjbpheeaaDoorU1
import Derived.Lib.ConvBytes
import Derived.Laws.BytesArg
import Derived.Laws.Rows
import Derived.Deep.RegionHeld3
namespace Go.Proofs.YtpnklpjjbpheeaaDoor
open Go.RowKit Go.Proofs.YtpnklpjjbpheeaaDoorW.PrintWords
open Go.Proofs.Fl Go.Proofs.YtpnklpjjbpheeaaDoor.Flt

set_option maxRecDepth 100000 in
set_option maxHeartbeats 8000000 in
theorem rin_any (k : Int) (A : Option Addr) (c : Nat) (l : List Int) (w : World) (hr : ReadsInt w .u8 A l.length l) :
    Calls Tryd.prog 31 #[.int .u8 k, .slice A l.length c] w fun e w' => e = .returned (.bool (l.any (fun y => decide (y = k)))) ∧ w' = w := by
  have HR := Lk.mk hr
  have hm := hr.2.1
  clear hr
  go_enter Tryd.func31, Tryd.ntmps31
  go_wp2
  go_loopg [5, 8] l.length (fun gg _ v8 wr => ∃ kk : Nat, kk ≤ l.length ∧ l.length - kk ≤ gg ∧ v8 = .int .i64 kk ∧ Lk (∀ j, j < kk → decide (l.getD j 0 = k) = false) ∧ Lk (wr = w))
  case atStart => exact ⟨0, by omega, by omega, rfl, ⟨fun j hj => absurd hj (by omega)⟩, ⟨rfl⟩⟩
  case round =>
    obtain ⟨kk, hk, hg, rfl, HN, HW⟩ := hrel
    obtain rfl := HW.out
    by_cases hlt : kk < l.length
    · obtain ⟨ad, rfl, hcell⟩ := HR.out.at_ (kk : Int) (by omega) (by omega)
      have HX := Lk.mk (show rd l (kk : Int) = l.getD kk 0 by unfold rd; rw [Int.toNat_natCast])
      rw [Int.toNat_natCast, HX.out] at hcell
      have hltz : (kk : Int) < (l.length : Int) := by omega
      obtain ⟨x, hx⟩ : ∃ x, x = l.getD kk 0 := ⟨_, rfl⟩
      rw [← hx] at hcell
      have HXX := Lk.mk hx
      have HM := Lk.mk (show x ∈ l by rw [hx, List.getD_eq_getElem?_getD, List.getElem?_eq_getElem hlt]; exact List.getElem_mem hlt)
      clear hx
      by_cases hpx : x = k
      · have HE := Lk.mk (show l.any (fun y => decide (y = k)) = true from List.any_eq_true.2 ⟨x, HM.out, decide_eq_true hpx⟩)
        have hpb : (x == k) = true := by simp [hpx]
        have HPX := Lk.mk hpx
        clear hpx
        go_wp2
        go_ret
        exact ⟨ret_bool HE.out.symm, rfl⟩
      · have hpb : (x == k) = false := by simp [hpx]
        have HPX := Lk.mk (decide_eq_false hpx)
        clear hpx
        go_wp2
        go_roundg (l.length - (kk + 1))
        case measure => omega
        case rel =>
          refine ⟨kk + 1, by omega, by omega, by go_num, ⟨fun j hj => ?_⟩, ⟨rfl⟩⟩
          by_cases e : j = kk
          · subst e; rw [← HXX.out]; exact HPX.out
          · exact HN.out j (by omega)
    · have hltz : ¬ (kk : Int) < (l.length : Int) := by omega
      obtain rfl : kk = l.length := by omega
      have HE := Lk.mk (show l.any (fun y => decide (y = k)) = false by
        rw [List.any_eq_false]
        intro x hx
        obtain ⟨j, hj, rfl⟩ := List.getElem_of_mem hx
        have := HN.out j hj
        rw [List.getD_eq_getElem?_getD, List.getElem?_eq_getElem hj] at this
        simpa using this)
      go_wp2
      go_ret
      exact ⟨ret_bool HE.out.symm, rfl⟩
/-- a literal row of numbers -/
theorem rin_lit (k : Int) (l : List Int) (r : Bool) (W : World) (b : Nat) (hb : W.heap.size = b) (hl : l.length ≤ 1000) (h : l.any (fun y => decide (y = k)) = r) :
    Calls Tryd.prog 31 #[.int .u8 k, .slice (some ⟨b, 0, none⟩) l.length l.length] (W.alloc (.cells (l.map (Value.int .u8)).toArray 5)) fun e w' => e = .returned (.bool r) ∧ w' = W.alloc (.cells (l.map (Value.int .u8)).toArray 5) := by
  subst hb
  have h0 := rin_any k (some ⟨W.heap.size, 0, none⟩) l.length l (W.alloc (.cells (l.map (Value.int .u8)).toArray 5)) (own_reads' (own_lit W _ 5 .u8 l (Nat.le_refl _) (by omega)))
  rw [h] at h0
  exact h0
def wordCells : Array Value := (fWs.map Value.string).toArray
theorem word_at (j : Nat) (h : j < 13) : wordCells[j]? = some (.string (fW j)) := by
  have : j = 0 ∨ j = 1 ∨ j = 2 ∨ j = 3 ∨ j = 4 ∨ j = 5 ∨ j = 6 ∨ j = 7 ∨ j = 8 ∨ j = 9 ∨ j = 10 ∨ j = 11 ∨ j = 12 := by omega
  rcases this with rfl | rfl | rfl | rfl | rfl | rfl | rfl | rfl | rfl | rfl | rfl | rfl | rfl <;> exact rfl
set_option maxRecDepth 100000 in
set_option maxHeartbeats 2000000 in
theorem rWords_any (w : World) : Calls Tryd.prog 34 #[] w fun e w' => e = .returned (.slice (some ⟨w.heap.size, 0, none⟩) 13 13) ∧ w' = w.alloc (.cells wordCells 9) := by
  go_enter Tryd.func34, Tryd.ntmps34
  go_wp2
  go_ret
  exact ⟨rfl, rfl⟩
/-- words with a blank ahead of each -/
def joinT : List ByteArray → ByteArray
  | [] => ⟨#[]⟩
  | x :: xs => ((⟨#[32]⟩ : ByteArray) ++ x) ++ joinT xs
theorem joinT_append : ∀ (xs ys : List ByteArray), joinT (xs ++ ys) = joinT xs ++ joinT ys
  | [], ys => by
    show joinT ys = (⟨#[]⟩ : ByteArray) ++ joinT ys
    apply ByteArray.ext
    simp [ByteArray.data_append]
  | x :: xs, ys => by
    show ((⟨#[32]⟩ : ByteArray) ++ x) ++ joinT (xs ++ ys) = (((⟨#[32]⟩ : ByteArray) ++ x) ++ joinT xs) ++ joinT ys
    rw [joinT_append xs ys]
    apply ByteArray.ext
    simp [ByteArray.data_append]
theorem joinTail_T : ∀ xs : List ByteArray, Lib.joinTail [32] (xs.map (·.data.toList)) = (joinT xs).data.toList
  | [] => by simp [Lib.joinTail, joinT]
  | x :: xs => by
    have ih := joinTail_T xs
    unfold Lib.joinTail at ih ⊢
    simp only [List.map_cons, List.flatten_cons, joinT, ByteArray.data_append, Array.toList_append, ih]
theorem joinW_cons (x : ByteArray) (xs : List ByteArray) : joinW (x :: xs) = x ++ joinT xs := by
  unfold joinW
  apply ByteArray.ext
  rw [List.map_cons, Lib.join_cons, joinTail_T, ByteArray.data_append]
  simp
/-- a blank and a number's digits -/
def sp (n : Nat) : ByteArray := (⟨#[32]⟩ : ByteArray) ++ dec n
theorem sp_size (n : Nat) : (sp n).size ≤ n + 2 := by
  unfold sp
  rw [ByteArray.size_append]
  have := dec_size n
  have h1 : (⟨#[32]⟩ : ByteArray).size = 1 := rfl
  omega
theorem rnum_sp (n : Nat) (w : World) (hn : n ≤ 1000000) : Calls Tryd.prog 35 #[.int .i64 n] w fun e w' => e = .returned (.string (sp n)) ∧ Below w.heap.size w w' := rnum_any n w hn
/-- a value's text -/
def vT (k : Int) (b d s : Nat) : ByteArray := joinT (vW k b d s)
theorem vT_size (k : Int) (b d s : Nat) (hd : d ≤ 1000000) (hs : s ≤ 1000000) : (vT k b d s).size ≤ 3000000 := by
  have h1 : ∀ n, n ≤ 1000000 → (dec n).size ≤ 1000001 := fun n hn => Nat.le_trans (dec_size n) (by omega)
  have h2 := tx_size b
  have h3 := h1 d hd
  have h4 := h1 s hs
  have e1 : (⟨#[32]⟩ : ByteArray).size = 1 := rfl
  have e2 : (⟨#[98, 105, 116, 115]⟩ : ByteArray).size = 4 := rfl
  have e3 : (⟨#[114, 101, 102]⟩ : ByteArray).size = 3 := rfl
  have e4 : (⟨#[110, 105, 108]⟩ : ByteArray).size = 3 := rfl
  have e5 : (⟨#[]⟩ : ByteArray).size = 0 := rfl
  unfold vT vW
  repeat' split
  all_goals simp only [joinT, ByteArray.size_append, e1, e2, e3, e4, e5]
  all_goals omega
set_option maxRecDepth 100000 in
set_option maxHeartbeats 8000000 in
theorem rValue_any (k : Int) (b d s : Nat) (w : World) (hk : k = 0 ∨ k = 1 ∨ k = 2) (hb : b < 18446744073709551616) (hd : d ≤ 1000000) (hs : s ≤ 1000000) :
    Calls Tryd.prog 36 #[.agg #[.int .u8 k, .int .u64 (b : Int), .int .i64 (d : Int), .int .i64 (s : Int)]] w fun e w' => e = .returned (.string (vT k b d s)) ∧ Below w.heap.size w w' := by
  have HB0 := Lk.mk (below_alloc (Below.refl w.heap.size w) (.cells #[.int .u8 k, .int .u64 (b : Int), .int .i64 (d : Int), .int .i64 (s : Int)] 43))
  have HE := Lk.mk (blk_new w (.cells #[.int .u8 k, .int .u64 (b : Int), .int .i64 (d : Int), .int .i64 (s : Int)] 43))
  have HTX := Lk.mk (fun W => rtext_any b W hb)
  have HND := Lk.mk (fun W => rnum_sp d W hd)
  have HNS := Lk.mk (fun W => rnum_sp s W hs)
  rw [show strOfNums (Hx.low 16 b) = tx b from rfl] at HTX
  have hzd := sp_size d
  have hzs := sp_size s
  have hzt := tx_size b
  rcases hk with rfl | rfl | rfl
  · have HZ := Lk.mk (show vT 0 b d s = ⟨#[32, 110, 105, 108]⟩ from rfl)
    generalize vT 0 b d s = Z at *
    clear HND HNS HTX hzd hzs hzt hb hd hs
    go_enter Tryd.func36, Tryd.ntmps36
    go_wp2
    go_ret
    exact ⟨by rw [HZ.out]; rfl, HB0.out⟩
  · have HZ := Lk.mk (show vT 1 b d s = (⟨#[32, 98, 105, 116, 115, 32]⟩ : ByteArray) ++ tx b by
      show (((⟨#[32]⟩ : ByteArray) ++ ⟨#[98, 105, 116, 115]⟩) ++ (((⟨#[32]⟩ : ByteArray) ++ tx b) ++ ⟨#[]⟩)) = _
      apply ByteArray.ext
      simp [ByteArray.data_append])
    generalize vT 1 b d s = Z at *
    generalize tx b = T at *
    clear HND HNS hzd hzs hb hd hs
    have hc : ¬ 9223372036854775807 < 6 + T.size := by omega
    go_enter Tryd.func36, Tryd.ntmps36
    go_wp2_with (go_at_call 11; (with_reducible refine (HTX.out _).mono ?_); rintro e w' ⟨rfl, hw⟩; obtain rfl := hw.symm; clear hw)
    go_ret
    exact ⟨by rw [HZ.out]; rfl, HB0.out⟩
  · have HZ := Lk.mk (show vT 2 b d s = ((⟨#[32, 114, 101, 102]⟩ : ByteArray) ++ sp d) ++ sp s by
      show (((⟨#[32]⟩ : ByteArray) ++ ⟨#[114, 101, 102]⟩) ++ (((⟨#[32]⟩ : ByteArray) ++ dec d) ++ (((⟨#[32]⟩ : ByteArray) ++ dec s) ++ ⟨#[]⟩))) = _
      unfold sp
      apply ByteArray.ext
      simp [ByteArray.data_append])
    generalize vT 2 b d s = Z at *
    generalize sp d = D at *
    generalize sp s = S at *
    have hc : ¬ 9223372036854775807 < 4 + D.size := by omega
    have hc2 : ¬ 9223372036854775807 < 4 + D.size + S.size := by omega
    clear HTX hzd hzs hzt hb hd hs
    go_enter Tryd.func36, Tryd.ntmps36
    go_wp2
    (refine wpU_begin (fun W => Below w.heap.size w W ∧ W.heap[w.heap.size]? = some (.cells #[.int .u8 2, .int .u64 (b : Int), .int .i64 (d : Int), .int .i64 (s : Int)] 43 (0, 0))) (by kernel_rfl) ⟨below_drew1 HB0.out, blk_drew HE.out⟩ ?_)
    (refine wpU_pure (i := 0) (v := ?_) rfl (by kernel_rfl) (by kernel_rfl) (by kernel_rfl) (fun _ _ _ _ _ h => h) (fun _ _ _ _ _ h => h) (by rfl) ?_ ?_); rotate_left; (focus (intro w' hS; (try dsimp only at hS); have b2 : _ = some (Value.int .i64 (d : Int)) := (blk_cell hS.2 2).trans rfl; go_simp; (with_reducible rfl))); (try simp only [Act.put, List.setIfInBounds_toArray, List.set_cons_zero, List.set_cons_succ]); (refine wpU_pure (i := 1) (v := ?_) rfl (by kernel_rfl) (by kernel_rfl) (by kernel_rfl) (fun _ _ _ _ _ h => h) (fun _ _ _ _ _ h => h) (by rfl) ?_ ?_); rotate_left; (focus (intro w' hS; (try dsimp only at hS); have b2 : _ = some (Value.int .i64 (d : Int)) := (blk_cell hS.2 2).trans rfl; go_simp; (with_reducible rfl))); (try simp only [Act.put, List.setIfInBounds_toArray, List.set_cons_zero, List.set_cons_succ])
    (refine wpU_call (i := 2) (f := ?_) (args := ?_) (v := .string D) rfl (by kernel_rfl) (by kernel_rfl) (by kernel_rfl) (fun _ _ _ _ _ h => h) (fun _ _ _ _ _ h => h) (by rfl) ?_ ?_ ?_); rotate_left 2; (focus (intro w' hS; (try dsimp only at hS); skip; go_simp; (apply And.intro <;> with_reducible rfl))); (focus (intro w' hS; (try dsimp only at hS); exact (HND.out w').mono fun e w1 ⟨he, hb⟩ => ⟨he, below_then hS.1 hS.1.size hb, blk_below hS.2 hb⟩)); (try simp only [Act.put, List.setIfInBounds_toArray, List.set_cons_zero, List.set_cons_succ])
    (refine wpU_pure (i := 3) (v := ?_) rfl (by kernel_rfl) (by kernel_rfl) (by kernel_rfl) (fun _ _ _ _ _ h => h) (fun _ _ _ _ _ h => h) (by rfl) ?_ ?_); rotate_left; (focus (intro w' hS; (try dsimp only at hS); have b2 : _ = some (Value.int .i64 (s : Int)) := (blk_cell hS.2 3).trans rfl; go_simp; (with_reducible rfl))); (try simp only [Act.put, List.setIfInBounds_toArray, List.set_cons_zero, List.set_cons_succ]); (refine wpU_pure (i := 4) (v := ?_) rfl (by kernel_rfl) (by kernel_rfl) (by kernel_rfl) (fun _ _ _ _ _ h => h) (fun _ _ _ _ _ h => h) (by rfl) ?_ ?_); rotate_left; (focus (intro w' hS; (try dsimp only at hS); have b2 : _ = some (Value.int .i64 (s : Int)) := (blk_cell hS.2 3).trans rfl; go_simp; (with_reducible rfl))); (try simp only [Act.put, List.setIfInBounds_toArray, List.set_cons_zero, List.set_cons_succ]); (refine wpU_pure (i := 5) (v := ?_) rfl (by kernel_rfl) (by kernel_rfl) (by kernel_rfl) (fun _ _ _ _ _ h => h) (fun _ _ _ _ _ h => h) (by rfl) ?_ ?_); rotate_left; (focus (intro w' hS; (try dsimp only at hS); have b2 : _ = some (Value.int .i64 (s : Int)) := (blk_cell hS.2 3).trans rfl; go_simp; (with_reducible rfl))); (try simp only [Act.put, List.setIfInBounds_toArray, List.set_cons_zero, List.set_cons_succ])
    (refine wpU_call (i := 6) (f := ?_) (args := ?_) (v := .string S) rfl (by kernel_rfl) (by kernel_rfl) (by kernel_rfl) (fun _ _ _ _ _ h => h) (fun _ _ _ _ _ h => h) (by rfl) ?_ ?_ ?_); rotate_left 2; (focus (intro w' hS; (try dsimp only at hS); skip; go_simp; (apply And.intro <;> with_reducible rfl))); (focus (intro w' hS; (try dsimp only at hS); exact (HNS.out w').mono fun e w1 ⟨he, hb⟩ => ⟨he, below_then hS.1 hS.1.size hb, blk_below hS.2 hb⟩)); (try simp only [Act.put, List.setIfInBounds_toArray, List.set_cons_zero, List.set_cons_succ])
    (refine wpU_pure (i := 7) (v := ?_) rfl (by kernel_rfl) (by kernel_rfl) (by kernel_rfl) (fun _ _ _ _ _ h => h) (fun _ _ _ _ _ h => h) (by rfl) ?_ ?_); rotate_left; (focus (intro w' hS; (try dsimp only at hS); skip; go_simp; (with_reducible rfl))); (try simp only [Act.put, List.setIfInBounds_toArray, List.set_cons_zero, List.set_cons_succ]); (refine wpU_pure (i := 8) (v := ?_) rfl (by kernel_rfl) (by kernel_rfl) (by kernel_rfl) (fun _ _ _ _ _ h => h) (fun _ _ _ _ _ h => h) (by rfl) ?_ ?_); rotate_left; (focus (intro w' hS; (try dsimp only at hS); skip; go_simp; (with_reducible rfl))); (try simp only [Act.put, List.setIfInBounds_toArray, List.set_cons_zero, List.set_cons_succ])
    (refine wpU_done (by kernel_rfl) ?_ _)
    rintro w2 ⟨HB, HX⟩
    go_wp2
    go_ret
    exact ⟨by rw [HZ.out]; rfl, HB⟩
end Go.Proofs.YtpnklpjjbpheeaaDoor
