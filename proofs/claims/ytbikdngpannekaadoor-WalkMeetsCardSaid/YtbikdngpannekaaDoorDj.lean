/-
  The walk of the law FrameReads; conditions: what is handed in reads as told, the table of deBruijn stands.
-/
import Derived.Test.YtbikdngpannekaaDoorDi
import Derived.Test.YtbikdngpannekaaDoorBq
namespace Go.Proofs.YtbikdngpannekaaDoor
open Go.RowKit Go.Proofs.YtbikdngpannekaaDoorW.PrintWords

theorem great_le {t : List (Int × List Int)} (h : greatL t = false) : ∀ f ∈ t, f.2.length ≤ 40 := by
  unfold greatL at h
  simp only [Bool.or_eq_false_iff, List.any_eq_false, decide_eq_false_iff_not, decide_eq_true_eq] at h
  intro f hf
  have := h.2 f hf
  omega
theorem make256 (W : World) : (Instr.makeSlice 37 (.int .i64 256) (.int .i64 256)).run Tryd.prog W = .ok (.slice (some ⟨W.heap.size, 0, none⟩) 256 256) (W.alloc (.cells (nums .u64 zw).toArray 25)) := by
  have := print_make 37 25 .u64 8 Tryd.underlying37 info25 (by decide) (64 * 4) (by omega) W
  rw [made_nums] at this
  exact this
set_option maxRecDepth 100000 in
set_option maxHeartbeats 2000000 in
theorem reads_early (V : Option Addr) (c : Nat) (ws : List Int) (B : Option Addr) (c' : Nat) (t : List (Int × List Int)) (a : Int) (w : World) (hr : ReadsInt w .u64 V ws.length ws) (hq : FnC w B t.length t) (hT : Tab w) (h : 256 < ws.length ∨ greatL t = true) :
    Calls Tryd.prog 5 #[.slice V ws.length c, .slice B t.length c', .int .i64 a] w fun e w' => e = .returned (.bool true) ∧ Below w.heap.size w w' := by
  have hm := hr.2.1
  have HG := Lk.mk (great_any B c' t w hq)
  have HT := Lk.mk hT
  have HB := Lk.mk (Below.refl w.heap.size w)
  clear hr hq hT
  by_cases h1 : 256 < ws.length
  · have h1z : (256 : Int) < (ws.length : Int) := by omega
    clear h
    go_enter Tryd.func5, Tryd.ntmps5
    go_wp2_with (go_at_call 25; (with_reducible refine (awake14_any _ HT.out).mono ?_); rintro e w' ⟨rfl, hb⟩; have HB := Lk.mk (below_then HB.out HB.out.size hb); clear hb)
    go_ret
    exact ⟨rfl, HB.out⟩
  · have h1z : ¬ (256 : Int) < (ws.length : Int) := by omega
    rw [h.resolve_left h1] at HG
    clear h
    go_enter Tryd.func5, Tryd.ntmps5
    go_wp2_with (first
      | (go_at_call 24; (with_reducible refine (HG.out).mono ?_); rintro e w' ⟨rfl, hw⟩; obtain rfl := hw.symm; clear hw)
      | (go_at_call 25; (with_reducible refine (awake14_any _ HT.out).mono ?_); rintro e w' ⟨rfl, hb⟩; have HB := Lk.mk (below_then HB.out HB.out.size hb); clear hb))
    go_ret
    exact ⟨rfl, HB.out⟩
set_option maxRecDepth 100000 in
set_option maxHeartbeats 2000000 in
theorem reads_none (V : Option Addr) (c : Nat) (ws : List Int) (B : Option Addr) (c' : Nat) (t : List (Int × List Int)) (a : Int) (w : World) (hr : ReadsInt w .u64 V ws.length ws) (hq : FnC w B t.length t) (hI : FnsOk t) (hT : Tab w) (h1 : ws.length ≤ 256) (h2 : greatL t = false) (hn : newOk t = false) :
    Calls Tryd.prog 5 #[.slice V ws.length c, .slice B t.length c', .int .i64 a] w fun e w' => e = .returned (.bool true) ∧ Below w.heap.size w w' := by
  have hm := hr.2.1
  have HG := Lk.mk (h2 ▸ great_any B c' t w hq)
  have HM := Lk.mk (made_bad V c ws B c' t w hq hI hT hn)
  have HL := Lk.mk (fun W (hb : Below w.heap.size w W) => hn ▸ refAll_any B c' t W (hq.below hb) (fun f hf => ⟨(hI f hf).1, by have := great_le h2 f hf; omega⟩))
  have HT := Lk.mk hT
  have h1z : ¬ (256 : Int) < (ws.length : Int) := by omega
  clear hr hq hT hI hn h2
  go_enter Tryd.func5, Tryd.ntmps5
  go_wp2_with (first
    | (go_at_call 24; (with_reducible refine (HG.out).mono ?_); rintro e w' ⟨rfl, hw⟩; obtain rfl := hw.symm; clear hw)
    | (go_at_call 26; (with_reducible refine (HM.out).mono ?_); rintro e w1 ⟨g, rfl, hb⟩; have HB := Lk.mk hb; clear hb)
    | (go_at_call 27; (with_reducible refine (HL.out _ HB.out).mono ?_); rintro e w' ⟨rfl, hb⟩; have HB := Lk.mk (below_then HB.out HB.out.size hb); clear hb)
    | (go_at_call 25; (with_reducible refine (awake14_any _ (HT.out.below HB.out)).mono ?_); rintro e w' ⟨rfl, hb⟩; have HB := Lk.mk (below_then HB.out HB.out.size hb); clear hb))
  go_ret
  exact ⟨rfl, HB.out⟩
theorem entOk_of {t : List (Int × List Int)} (h : newOk t = true) : EntIn (t.map entryOf) := by
  intro e he
  obtain ⟨f, hf, rfl⟩ := List.mem_map.1 he
  have := (may_iff f.1 f.2).1 (newOk_may h f hf)
  exact ⟨this.1, this.2.1⟩
theorem both_read (g b : Nat) (p : Value) (ws : List Int) (B : Option Addr) (c' : Nat) (t : List (Int × List Int)) (a : Int) (hw : Bm.Words ws) (hn : newOk t = true) (hl : ws.length = 256) (ha : -9223372036854775808 ≤ a ∧ a ≤ 9223372036854775807) :
    ∃ x0 x1 x2 n : Int, (0 ≤ n ∧ n ≤ 9) ∧ (∀ W, ArB W g b ws → TblOr W p (t.map entryOf) → Calls Tryd.prog 29 #[.pointer (some ⟨g, 0, none⟩), p, .int .i64 a] W fun e w' => e = .returned (.tuple #[.agg #[.int .i64 x0, .int .i64 x1, .int .i64 x2], .int .i64 n]) ∧ Below W.heap.size W w') ∧
      (∀ W A c, ReadsInt W .u64 A ws.length ws → FnC W B t.length t → Calls Tryd.prog 30 #[.slice A ws.length c, .slice B t.length c', .int .i64 a] W fun e w' => e = .returned (.tuple #[.agg #[.int .i64 x0, .int .i64 x1, .int .i64 x2], .int .i64 n]) ∧ Below W.heap.size W w') := by
  by_cases hi : 0 ≤ a ∧ a + 2 ≤ ws.length
  · obtain ⟨k, rfl⟩ : ∃ k : Nat, a = (k : Int) := ⟨a.toNat, by omega⟩
    have hk : k + 2 ≤ ws.length := by omega
    by_cases ho : RdOk ws (t.map entryOf) k
    · exact ⟨_, _, _, 0, by decide, fun W hA ht => read_ok g b ws p _ k W hA ht (entOk_of hn) hk ho, fun W A c hr hq => rread_ok A c ws B c' t k W hr hw hq hn (by omega) hk ho⟩
    · exact ⟨0, 0, 0, 9, by decide, fun W hA ht => read_bad g b ws p _ k W hA ht (entOk_of hn) hk ho, fun W A c hr hq => rread_bad A c ws B c' t k W hr hw hq hn (by omega) hk ho⟩
  · exact ⟨0, 0, 0, 2, by decide, fun W hA _ => read_out g b ws p a W hA hi, fun W A c _ _ => rread_out A c ws B c' t a W (by omega) hi⟩
set_option maxRecDepth 100000 in
set_option maxHeartbeats 2000000 in
theorem reads_late (V : Option Addr) (c : Nat) (ws : List Int) (B : Option Addr) (c' : Nat) (t : List (Int × List Int)) (a : Int) (w : World) (hr : ReadsInt w .u64 V ws.length ws) (hw : Bm.Words ws) (hq : FnC w B t.length t) (hI : FnsOk t) (ha : -9223372036854775808 ≤ a ∧ a ≤ 9223372036854775807) (hT : Tab w) (h1 : ws.length ≤ 256) (h2 : greatL t = false) (hn : newOk t = true) :
    Calls Tryd.prog 5 #[.slice V ws.length c, .slice B t.length c', .int .i64 a] w fun e w' => e = .returned (.bool true) ∧ Below w.heap.size w w' := by
  have hm := hr.2.1
  have HG := Lk.mk (h2 ▸ great_any B c' t w hq)
  have HM := Lk.mk (made_good V c ws B c' t w hr hw h1 hq hI hT hn)
  have HT := Lk.mk hT
  have hpl : (putW zw 0 ws).length = 256 := by rw [putW_length _ _ _ (by rw [zw_len]; omega), zw_len]
  have HPL := Lk.mk hpl
  have hpw : Bm.Words (putW zw 0 ws) := putW_words (words_zero _) hw
  have HST := Lk.mk (fun W A c1 (hb : Below w.heap.size w W) (hz : ReadsInt W .u64 A zw.length zw) => refStore04_any A c1 zw V c ws W hz (hr.below hb) (by rw [zw_len]; omega) (by rw [zw_len]; omega))
  rw [zw_len] at HST
  have h1z : ¬ (256 : Int) < (ws.length : Int) := by omega
  have HBR := Lk.mk (fun p => both_read (w.heap.size + 1) w.heap.size p (putW zw 0 ws) B c' t a hpw hn hpl ha)
  have HQ := Lk.mk hq
  clear hr hq hT hI hn h2 ha
  have hmk := make256
  have HZ := Lk.mk (fun W => own_reads' (own_lit W W.heap.size 25 .u64 zw (Nat.le_refl _) (by rw [zw_len]; omega)))
  rw [zw_len] at HZ
  generalize hz : zw = Z at *
  clear hz
  generalize putW Z 0 ws = all at *
  go_enter Tryd.func5, Tryd.ntmps5
  go_wp2_with (first
    | (go_at_call 24; (with_reducible refine (HG.out).mono ?_); rintro e w' ⟨rfl, hw⟩; obtain rfl := hw.symm; clear hw)
    | (go_at_call 26; (with_reducible refine (HM.out).mono ?_); rintro e w1 ⟨p, rfl, ha, hs, hb⟩; obtain ⟨x0, x1, x2, n, hn, hr1, hr2⟩ := HBR.out p; have HR1 := Lk.mk hr1; rw [hpl] at hr2; have HR2 := Lk.mk hr2; clear hr1 hr2; have HA1 := Lk.mk ha; have HS1 := Lk.mk hs; have HB := Lk.mk hb; have HBz := Lk.mk (below_alloc hb (.cells (nums .u64 Z).toArray 25)); clear ha hs hb)
    | (go_at_call 28; (with_reducible refine (HST.out _ _ _ HBz.out (HZ.out _)).mono ?_); rintro e w2 ⟨v, rfl, ho, hb⟩; obtain ⟨A2, c2, rfl, hr2⟩ := own_reads ho; rw [hpl] at hr2; have HO := Lk.mk hr2; clear hr2; have HB2 := Lk.mk (below_then HBz.out HBz.out.size hb); have HA2 := Lk.mk ((HA1.out.below (below_alloc (Below.refl _ _) _)).below hb); have HBs := Lk.mk (below_then (below_alloc (Below.refl _ _) _) (below_alloc (Below.refl _ _) _).size hb); clear ho hb)
    | (go_at_call 29; (with_reducible refine (HR1.out _ HA2.out (HS1.out.keep (KeepW.of_below HBs.out _)).now.or).mono ?_); rintro e w3 ⟨rfl, hb⟩; have HB3 := Lk.mk (below_then HB2.out HB2.out.size hb); have HO3 := Lk.mk (HO.out.below hb); clear hb)
    | (go_at_call 30; (with_reducible refine (HR2.out _ _ _ (HO3.out.below (below_alloc (Below.refl _ _) _)) (HQ.out.below (below_alloc HB3.out _))).mono ?_); rintro e w4 ⟨rfl, hb⟩; obtain ⟨k0, k1, k2, _, _, _⟩ := cells3 (blk_alloc (blk_below (blk_new w3 (.cells #[.int .i64 x0, .int .i64 x1, .int .i64 x2] 52)) hb) (.cells #[.int .i64 x0, .int .i64 x1, .int .i64 x2] 52)); have HB := Lk.mk (below_alloc (below_then (below_alloc HB3.out _) (below_alloc HB3.out _).size hb) (.cells #[.int .i64 x0, .int .i64 x1, .int .i64 x2] 52)); clear hb)
    | (go_at_call 25; (with_reducible refine (awake14_any _ (HT.out.below HB.out)).mono ?_); rintro e w' ⟨rfl, hb⟩; have HB := Lk.mk (below_then HB.out HB.out.size hb); clear hb))
  go_ret
  exact ⟨rfl, HB.out⟩
theorem lawOfFrameReads (V : Option Addr) (c : Nat) (ws : List Int) (B : Option Addr) (c' : Nat) (t : List (Int × List Int)) (a : Int) (w : World) (hr : ReadsInt w .u64 V ws.length ws) (hw : Bm.Words ws) (_ : ws.length ≤ c) (hq : FnC w B t.length t) (hI : FnsIn t) (ha : -9223372036854775808 ≤ a ∧ a ≤ 9223372036854775807) (hT : Tab w) :
    Calls Tryd.prog 5 #[.slice V ws.length c, .slice B t.length c', .int .i64 a] w fun e w' => e = .returned (.bool true) ∧ Below w.heap.size w w' := by
  by_cases h : 256 < ws.length ∨ greatL t = true
  · exact reads_early V c ws B c' t a w hr hq hT h
  · have h1 : ws.length ≤ 256 := by
      rcases Nat.lt_or_ge 256 ws.length with g | g
      · exact absurd (.inl g) h
      · exact g
    have h2 : greatL t = false := by
      cases g : greatL t with
      | false => rfl
      | true => exact absurd (.inr g) h
    cases hn : newOk t with
    | false => exact reads_none V c ws B c' t a w hr hq (hI.ok h2) hT h1 h2 hn
    | true => exact reads_late V c ws B c' t a w hr hw hq (hI.ok h2) ha hT h1 h2 hn
end Go.Proofs.YtbikdngpannekaaDoor
