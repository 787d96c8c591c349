/-
  The walk of bitmap.With; conditions: what is handed in reads as told, at most 2^40 words.
-/
import Derived.Test.YtbikdngpannekaaDoorBe
namespace Go.Proofs.YtbikdngpannekaaDoor
open Go.RowKit Go.Proofs.YtbikdngpannekaaDoorW.PrintWords

theorem own_full {w : World} {base n : Nat} {e : TypeId} {k : IntKind} {v : Value} {xs : List Int} (h : w.ownsRow base e 1 v n (nums k xs)) : ∃ A c, v = .slice A n c ∧ n ≤ c ∧ xs.length = n ∧ ReadsInt w k A n xs := by
  obtain ⟨A, c, rfl, hr⟩ := own_reads h
  refine ⟨A, c, rfl, ?_, hr.1, hr⟩
  rcases h.2 with ⟨h1, h2⟩ | ⟨g, cap, cur, he, _, _, h1, _⟩
  · omega
  · injection he with _ _ hc; omega
/-- the end of With: the row cut -/
theorem own_cut {w : World} {base c : Nat} {A : Option Addr} {l : List Int} (h : w.ownsRow base 25 1 (.slice A l.length c) l.length (nums .u64 l)) : w.ownsRow base 25 1 (.slice A (Bm.cutL l).length c) (Bm.cutL l).length (nums .u64 (Bm.cutL l)) := by
  have h1 := own_take h (Bm.cut_length l)
  rw [Nat.mul_one] at h1
  have e : (nums .u64 l).take (Bm.cutL l).length = nums .u64 (Bm.cutL l) := by
    unfold nums
    rw [← List.map_take, ← Bm.cut_take]
  rwa [e] at h1

set_option maxHeartbeats 1000000 in
theorem with_unfit (A : Option Addr) (c : Nat) (l : List Int) (i : Int) (on : Bool) (w : World) (hf : Bm.fits i = false) (hr : ReadsInt w .u64 A l.length l) (hl : l.length ≤ 1099511627776) :
    Calls Tryd.prog 119 #[.slice A l.length c, .int .i64 i, .bool on] w fun e w' => ∃ v, e = .returned v ∧ w'.ownsRow w.heap.size 25 1 v (Bm.cutL l).length (nums .u64 (Bm.cutL l)) ∧ Below w.heap.size w w' := by
  have HC := Lk.mk (clone64 A c l w hr (by omega))
  have HF := Lk.mk (fun w => hf ▸ fits_any i w)
  clear hr hf
  go_enter Tryd.func119, Tryd.ntmps119
  go_wp2_with (first | (go_at_call 80; (with_reducible refine HC.out.mono ?_); rintro e w1 ⟨v, rfl, ho, hb⟩; obtain ⟨A1, c1, rfl, hc1, _, hr1⟩ := own_full ho; have HO := Lk.mk ho; have HB := Lk.mk hb; have HR1 := Lk.mk hr1; have HC1 := Lk.mk hc1; clear ho hb hr1 hc1) | (go_at_call 118; (with_reducible refine (HF.out _).mono ?_); rintro e w2 ⟨rfl, rfl⟩) | (go_at_call 145; (with_reducible refine (cut_any _ _ _ _ HR1.out HC1.out).mono ?_); rintro e w3 ⟨rfl, rfl⟩))
  go_ret
  exact ⟨_, rfl, own_cut HO.out, HB.out⟩

theorem and_not_bit (x j : Nat) (hj : j < 64) (hx : x < 18446744073709551616) : bits .andNot .u64 (x : Int) (IntKind.u64.wrap (2 ^ j)) = ((Bm.setBit x j false : Nat) : Int) := by
  have h2 : 2 ^ j < 2 ^ 64 := Nat.pow_lt_pow_right (by omega) hj
  have e : IntKind.u64.wrap ((2 : Int) ^ j) = ((2 ^ j : Nat) : Int) := by
    rw [IntKind.wrap_u64, Int.natCast_pow]
    have h3 : ((2 ^ j : Nat) : Int) < 18446744073709551616 := Int.ofNat_lt.2 (show 2 ^ j < 18446744073709551616 from h2)
    have h4 : 0 ≤ ((2 ^ j : Nat) : Int) := Int.natCast_nonneg _
    have : ((2 : Int) ^ j) = ((2 ^ j : Nat) : Int) := by rw [Int.natCast_pow]; rfl
    rw [this, ← Int.natCast_pow]
    generalize ((2 ^ j : Nat) : Int) = p at *
    exact Int.emod_eq_of_lt h4 h3
  rw [e, u64_andNot_nat _ _ hx (by omega)]
  rfl
theorem or_bit (x j : Nat) (hj : j < 64) (hx : x < 18446744073709551616) : bits .or .u64 ((Bm.setBit x j false : Nat) : Int) (IntKind.u64.wrap (2 ^ j)) = ((Bm.setBit x j true : Nat) : Int) := by
  have h2 : 2 ^ j < 2 ^ 64 := Nat.pow_lt_pow_right (by omega) hj
  have e : IntKind.u64.wrap ((2 : Int) ^ j) = ((2 ^ j : Nat) : Int) := by
    rw [IntKind.wrap_u64, Int.natCast_pow]
    have h3 : ((2 ^ j : Nat) : Int) < 18446744073709551616 := Int.ofNat_lt.2 (show 2 ^ j < 18446744073709551616 from h2)
    have h4 : 0 ≤ ((2 ^ j : Nat) : Int) := Int.natCast_nonneg _
    have : ((2 : Int) ^ j) = ((2 ^ j : Nat) : Int) := by rw [Int.natCast_pow]; rfl
    rw [this, ← Int.natCast_pow]
    generalize ((2 ^ j : Nat) : Int) = p at *
    exact Int.emod_eq_of_lt h4 h3
  rw [e, u64_or_nat _ _ (Bm.setBit_lt x j false hj hx) (by omega)]
  rfl
/-- a word of a row of one's own is stored -/
theorem own_put {w W : World} {base g n cap : Nat} {l : List Int} {q : Nat} (y : Nat) (h : W.ownsRow base 25 1 (.slice (some ⟨g, 0, none⟩) n cap) n (nums .u64 l)) (hb : Below base w W) :
    ((W.setCell ⟨g, q, none⟩ (.int .u64 (y : Int))).drew).ownsRow base 25 1 (.slice (some ⟨g, 0, none⟩) n cap) n (nums .u64 (l.set q (y : Int))) ∧ Below base w (W.setCell ⟨g, q, none⟩ (.int .u64 (y : Int))).drew := by
  have h1 := (own_store h ((q : Nat) : Int) (y : Int)).1
  rw [Int.toNat_natCast] at h1
  have hg : base ≤ g := own_base h g rfl
  exact ⟨own_move h1 (fun _ _ => rfl), below_drew (hb.setCell (p := ⟨g, q, none⟩) hg _)⟩

set_option maxHeartbeats 2000000 in
theorem with_fit (A : Option Addr) (c : Nat) (l : List Int) (i : Nat) (on : Bool) (w : World) (hi : i < 4096) (hr : ReadsInt w .u64 A l.length l) (hw : Bm.Words l) (hl : l.length ≤ 1099511627776) :
    Calls Tryd.prog 119 #[.slice A l.length c, .int .i64 i, .bool on] w fun e w' => ∃ v, e = .returned v ∧ w'.ownsRow w.heap.size 25 1 v (Bm.withL l i on).length (nums .u64 (Bm.withL l i on)) ∧ Below w.heap.size w w' := by
  have HC := Lk.mk (clone64 A c l w hr (by omega))
  have hf : Bm.fits (i : Int) = true := by unfold Bm.fits; simp; omega
  have HF := Lk.mk (fun w => hf ▸ fits_any (i : Int) w)
  have HW := Lk.mk hw
  clear hr hf hw
  go_enter Tryd.func119, Tryd.ntmps119
  go_wp2_with (first | (go_at_call 80; (with_reducible refine HC.out.mono ?_); rintro e w1 ⟨v, rfl, ho, hb⟩; have HO := Lk.mk ho; have HB := Lk.mk hb; clear ho hb) | (go_at_call 118; (with_reducible refine (HF.out _).mono ?_); rintro e w2 ⟨rfl, rfl⟩))
  go_loopg [7] (i / 64 + 1) (fun gg v7 wr => ∃ m : Nat, m ≤ i / 64 + 1 - l.length ∧ i / 64 + 1 - (l.length + m) ≤ gg ∧ Lk (wr.ownsRow w.heap.size 25 1 v7 (l ++ List.replicate m 0).length (nums .u64 (l ++ List.replicate m 0))) ∧ Lk (Below w.heap.size w wr))
  case atStart => exact ⟨0, by omega, by omega, ⟨by simpa using HO.out⟩, HB⟩
  case round =>
    obtain ⟨m, hm, hg, HO1, HB1⟩ := hrel
    have hlen : (l ++ List.replicate m (0 : Int)).length = l.length + m := by simp
    have hpad := Lk.mk (show i / 64 + 1 ≤ l.length + m → l ++ List.replicate m (0 : Int) = Bm.pad l (i / 64 + 1) by
      intro h; unfold Bm.pad; rw [show m = i / 64 + 1 - l.length by omega])
    have hsn := Lk.mk (show l ++ List.replicate (m + 1) (0 : Int) = (l ++ List.replicate m 0) ++ [0] by rw [List.replicate_succ', List.append_assoc])
    generalize l ++ List.replicate m (0 : Int) = L at *
    obtain ⟨A1, c1, rfl, hc1, _, hr1⟩ := own_full HO1.out
    have hcell0 : i / 64 < L.length → ∃ g, A1 = some ⟨g, 0, none⟩ ∧ ∀ w' : World, w'.ownsRow w.heap.size 25 1 (.slice (some ⟨g, 0, none⟩) L.length c1) L.length (nums .u64 L) → w'.cell? ⟨g, i / 64, none⟩ = some (.int .u64 (L.getD (i / 64) 0)) ∧ w'.frozen? ⟨g, i / 64, none⟩ = false := by
      intro hlt
      obtain ⟨g, cap, he, _, _⟩ := HO1.out.form (by omega)
      injection he with he1 _ _
      refine ⟨g, he1, fun w' h => ?_⟩
      have h2 := own_at h ((i / 64 : Nat) : Int) (by omega) (by omega)
      unfold rd at h2
      rwa [Int.toNat_natCast] at h2
    have HC1 := Lk.mk hc1
    have HR1 := Lk.mk hr1
    have HG := Lk.mk hcell0
    clear hc1 hr1 hcell0 HC
    by_cases hlt : L.length ≤ i / 64
    · have hltz : (L.length : Int) ≤ (i : Int) / 64 := by omega
      go_wp2_with (at_builtin; refine print_append_num (w0 := w) w.heap.size rfl _ _ 37 25 .u64 8 rfl Tryd.underlying37 info25 (by decide) (.slice A1 L.length c1) L 0 rfl rfl HO1.out HB1.out HB1.out.size (by omega) ?_; intro v1 w1 hown hb _ _; have HO2 := Lk.mk hown; have HB2 := Lk.mk hb; clear hown hb)
      go_roundg (i / 64 + 1 - (l.length + (m + 1)))
      case measure => omega
      case rel => exact ⟨m + 1, by omega, Nat.le_refl _, ⟨by rw [hsn.out]; exact HO2.out⟩, HB2⟩
    · have hltz : ¬ (L.length : Int) ≤ (i : Int) / 64 := by omega
      obtain rfl := hpad.out (by omega)
      have hPW := HW.out.pad (i / 64 + 1)
      have hwl := Lk.mk (fun on => show Bm.withL l (i : Int) on = Bm.cutL ((Bm.pad l (i / 64 + 1)).set (i / 64) ((Bm.setBit ((Bm.pad l (i / 64 + 1)).getD (i / 64) 0).toNat (i % 64) on : Nat) : Int)) by
        unfold Bm.withL; rw [if_pos (by unfold Bm.fits; simp; omega), Int.toNat_natCast])
      generalize Bm.pad l (i / 64 + 1) = L at *
      obtain ⟨g, rfl, hg1⟩ := HG.out (by omega)
      obtain ⟨hcell, hfrz⟩ := hg1 _ HO1.out
      obtain ⟨x, hx, hx1⟩ : ∃ x : Nat, L.getD (i / 64) 0 = (x : Int) ∧ x < 18446744073709551616 := by
        have := hPW (L.getD (i / 64) 0) (by rw [List.getD_eq_getElem?_getD, List.getElem?_eq_getElem (by omega)]; exact List.getElem_mem _)
        exact ⟨(L.getD (i / 64) 0).toNat, by omega, by omega⟩
      rw [hx] at hcell hwl
      rw [Int.toNat_natCast] at hwl
      have HG1 := Lk.mk hg1
      clear hx hg1 HF HW hPW HG
      have hq1 : (i : Int) / 64 < (L.length : Int) := by omega
      have hq0 : 0 ≤ (i : Int) / 64 := by omega
      have hlm : L.length ≤ 9223372036854775807 := by omega
      have hs := and_not_bit x (i % 64) (Nat.mod_lt _ (by omega)) hx1
      have hs2 := Lk.mk (or_bit x (i % 64) (Nat.mod_lt _ (by omega)) hx1)
      obtain ⟨HO2, HB2⟩ := own_put (q := i / 64) (Bm.setBit x (i % 64) false) HO1.out HB1.out
      have HO3 := Lk.mk HO2
      have HB3 := Lk.mk HB2
      have hll := Lk.mk (show (L.set (i / 64) ((Bm.setBit x (i % 64) false : Nat) : Int)).length = L.length from List.length_set)
      have hy2 := Lk.mk (show (L.set (i / 64) ((Bm.setBit x (i % 64) false : Nat) : Int)).getD (i / 64) 0 = ((Bm.setBit x (i % 64) false : Nat) : Int) by
        rw [List.getD_eq_getElem?_getD, List.getElem?_set_self (by omega)]; rfl)
      have hss := Lk.mk (fun z : Int => show (L.set (i / 64) ((Bm.setBit x (i % 64) false : Nat) : Int)).set (i / 64) z = L.set (i / 64) z from List.set_set _)
      clear hl hlen HO2 HB2 HR1 HG1
      go_wp2
      go_region
      clear hcell hfrz hs
      generalize hS0 : Bm.setBit x (i % 64) false = y0 at *
      generalize hS1 : Bm.setBit x (i % 64) true = y1 at *
      generalize ((wr.setCell { block := g, off := i / 64 } (Value.int IntKind.u64 (y0 : Int))).drew) = W1 at *
      cases on with
      | false =>
        have hfin := Lk.mk (hwl.out false)
        rw [hS0] at hfin
        generalize L.set (i / 64) (y0 : Int) = L2 at *
        have HO4 := Lk.mk (show W1.ownsRow w.heap.size 25 1 (.slice (some ⟨g, 0, none⟩) L2.length c1) L2.length (nums .u64 L2) by rw [hll.out]; exact HO3.out)
        obtain ⟨A2, c2, he, hc2, _, hr2⟩ := own_full HO4.out
        injection he with he1 _ he2
        subst he1; subst he2
        have HR4 := Lk.mk hr2
        have HCC := Lk.mk (fun w' (h : w' = W1) => hll.out ▸ cut_any (some ⟨g, 0, none⟩) c1 L2 w' (h ▸ HR4.out) hc2)
        clear hr2 hc2 hS0 hS1 hlt hm hg
        go_wp2_with (go_at_call 145; (with_reducible refine (HCC.out _ rfl).mono ?_); rintro e w3 ⟨rfl, rfl⟩)
        go_ret
        exact ⟨_, rfl, by rw [hfin.out]; exact own_cut HO4.out, HB3.out⟩
      | true =>
        have hfin := Lk.mk (hwl.out true)
        rw [hS1] at hfin
        have hs3 := hs2.out
        have HO5 := Lk.mk (show W1.ownsRow w.heap.size 25 1 (.slice (some ⟨g, 0, none⟩) L.length c1) L.length (nums .u64 (L.set (i / 64) (y0 : Int))) from HO3.out)
        obtain ⟨hcell2, hfrz2⟩ : W1.cell? ⟨g, i / 64, none⟩ = some (.int .u64 (y0 : Int)) ∧ W1.frozen? ⟨g, i / 64, none⟩ = false := by
          have h2 := own_at HO5.out ((i / 64 : Nat) : Int) (by omega) (by omega)
          unfold rd at h2
          rw [Int.toNat_natCast, hy2.out] at h2
          exact h2
        obtain ⟨HO6, HB6⟩ := own_put (q := i / 64) y1 HO5.out HB3.out
        rw [hss.out] at HO6
        have HO7 := Lk.mk HO6
        have HB7 := Lk.mk HB6
        clear HO6 HB6 hS0 hS1
        have hll2 := Lk.mk (show (L.set (i / 64) (y1 : Int)).length = L.length from List.length_set)
        generalize L.set (i / 64) (y1 : Int) = L3 at *
        go_wp2
        go_region
        clear hcell2 hfrz2 hs3
        generalize ((W1.setCell { block := g, off := i / 64 } (Value.int IntKind.u64 (y1 : Int))).drew) = W2 at *
        have HO4 := Lk.mk (show W2.ownsRow w.heap.size 25 1 (.slice (some ⟨g, 0, none⟩) L3.length c1) L3.length (nums .u64 L3) by rw [hll2.out]; exact HO7.out)
        obtain ⟨A2, c2, he, hc2, _, hr2⟩ := own_full HO4.out
        injection he with he1 _ he2
        subst he1; subst he2
        have HR4 := Lk.mk hr2
        have HCC := Lk.mk (fun w' (h : w' = W2) => hll2.out ▸ cut_any (some ⟨g, 0, none⟩) c1 L3 w' (h ▸ HR4.out) hc2)
        clear hr2 hc2 hlt hm hg
        go_wp2_with (go_at_call 145; (with_reducible refine (HCC.out _ rfl).mono ?_); rintro e w3 ⟨rfl, rfl⟩)
        go_ret
        exact ⟨_, rfl, by rw [hfin.out]; exact own_cut HO4.out, HB7.out⟩
end Go.Proofs.YtbikdngpannekaaDoor
