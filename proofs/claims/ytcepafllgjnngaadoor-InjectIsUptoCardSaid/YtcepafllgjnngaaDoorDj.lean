/-
  The walk of the law FrameReads; conditions: what is handed in reads as told, the table of deBruijn stands.
-/
import Derived.Test.YtcepafllgjnngaaDoorDi
import Derived.Test.YtcepafllgjnngaaDoorBq
namespace Go.Proofs.YtcepafllgjnngaaDoor
open Go.RowKit Go.Proofs.YtcepafllgjnngaaDoorW.PrintWords

theorem great_le {t : List (Int × List Int)} (h : greatL t = false) : ∀ f ∈ t, f.2.length ≤ 40 := by
  unfold greatL at h
  simp only [Bool.or_eq_false_iff, List.any_eq_false, decide_eq_false_iff_not, decide_eq_true_eq] at h
  intro f hf
  have := h.2 f hf
  omega
theorem make256 (W : World) : (Instr.makeSlice 26 (.int .i64 256) (.int .i64 256)).run Tryd.prog W = .ok (.slice (some ⟨W.heap.size, 0, none⟩) 256 256) (W.alloc (.cells (nums .u64 zw).toArray 23)) := by
  have := print_make 26 23 .u64 8 Tryd.underlying26 info23 (by decide) (64 * 4) (by omega) W
  rw [made_nums] at this
  exact this
theorem entOk_of {t : List (Int × List Int)} (h : newOk t = true) : EntIn (t.map entryOf) := by
  intro e he
  obtain ⟨f, hf, rfl⟩ := List.mem_map.1 he
  have := (may_iff f.1 f.2).1 (newOk_may h f hf)
  exact ⟨this.1, this.2.1⟩
theorem both_read (g b : Nat) (p : Value) (ws : List Int) (B : Option Addr) (c' : Nat) (t : List (Int × List Int)) (a : Int) (hw : Bm.Words ws) (hn : newOk t = true) (hl : ws.length = 256) (ha : -9223372036854775808 ≤ a ∧ a ≤ 9223372036854775807) :
    ∃ x0 x1 x2 n : Int, (0 ≤ n ∧ n ≤ 9) ∧ (∀ W, ArB W g b ws → TblOr W p (t.map entryOf) → Calls Tryd.prog 163 #[.pointer (some ⟨g, 0, none⟩), p, .int .i64 a] W fun e w' => e = .returned (.tuple #[.agg #[.int .i64 x0, .int .i64 x1, .int .i64 x2], .int .i64 n]) ∧ Below W.heap.size W w') ∧
      (∀ W A c, ReadsInt W .u64 A ws.length ws → FnC W B t.length t → Calls Tryd.prog 106 #[.slice A ws.length c, .slice B t.length c', .int .i64 a] W fun e w' => e = .returned (.tuple #[.agg #[.int .i64 x0, .int .i64 x1, .int .i64 x2], .int .i64 n]) ∧ Below W.heap.size W w') := by
  by_cases hi : 0 ≤ a ∧ a + 2 ≤ ws.length
  · obtain ⟨k, rfl⟩ : ∃ k : Nat, a = (k : Int) := ⟨a.toNat, by omega⟩
    have hk : k + 2 ≤ ws.length := by omega
    by_cases ho : RdOk ws (t.map entryOf) k
    · exact ⟨_, _, _, 0, by decide, fun W hA ht => read_ok g b ws p _ k W hA ht (entOk_of hn) hk ho, fun W A c hr hq => rread_ok A c ws B c' t k W hr hw hq hn (by omega) hk ho⟩
    · exact ⟨0, 0, 0, 9, by decide, fun W hA ht => read_bad g b ws p _ k W hA ht (entOk_of hn) hk ho, fun W A c hr hq => rread_bad A c ws B c' t k W hr hw hq hn (by omega) hk ho⟩
  · exact ⟨0, 0, 0, 2, by decide, fun W hA _ => read_out g b ws p a W hA hi, fun W A c _ _ => rread_out A c ws B c' t a W (by omega) hi⟩
end Go.Proofs.YtcepafllgjnngaaDoor
