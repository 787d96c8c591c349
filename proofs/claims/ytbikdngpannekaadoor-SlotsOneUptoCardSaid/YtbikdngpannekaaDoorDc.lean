/-
  The walks of the arena's Store and Zero; conditions: the arena reads as told.
-/
import Derived.Test.YtbikdngpannekaaDoorDb
namespace Go.Proofs.YtbikdngpannekaaDoor
open Go.RowKit Go.Proofs.YtbikdngpannekaaDoorW.PrintWords

def putW (ws : List Int) (a : Nat) (l : List Int) : List Int := ws.take a ++ (l ++ ws.drop (a + l.length))
theorem putW_length (ws : List Int) (a : Nat) (l : List Int) (h : a + l.length ≤ ws.length) : (putW ws a l).length = ws.length := by
  unfold putW; simp only [List.length_append, List.length_take, List.length_drop]; omega
theorem putW_nil (ws : List Int) (a : Nat) : putW ws a [] = ws := by
  unfold putW; simp
theorem putW_words {ws : List Int} {a : Nat} {l : List Int} (h : Bm.Words ws) (hl : Bm.Words l) : Bm.Words (putW ws a l) := by
  intro x hx
  unfold putW at hx
  rw [List.mem_append, List.mem_append] at hx
  rcases hx with hx | hx | hx
  · exact h x (List.mem_of_mem_take hx)
  · exact hl x hx
  · exact h x (List.mem_of_mem_drop hx)
theorem putW_nums (ws : List Int) (a : Nat) (l : List Int) : nums .u64 (putW ws a l) = (nums .u64 ws).take a ++ (nums .u64 l ++ (nums .u64 ws).drop (a + (nums .u64 l).length)) := by
  unfold putW nums
  rw [List.map_append, List.map_append, List.map_take, List.map_drop, List.length_map]
theorem ArB.wrote {w w' : World} {g b : Nat} {ws : List Int} (h : ArB w g b ws) (k : KeepW b w w') (a : Nat) (l : List Int) (ha : a + l.length ≤ ws.length) (hl : Bm.Words l) (hr : w'.heap[b]? = some (.cells (nums .u64 (putW ws a l)).toArray 25 (0, 0))) : ArB w' g b (putW ws a l) := by
  have e := putW_length ws a l ha
  refine ⟨?_, hr, putW_words h.words hl, by rw [e]; exact h.pos, by rw [e]; exact h.len⟩
  rw [k.block g (blk_lt h.head) h.ne, e]; exact h.head

/-- copy into the arena's words -/
theorem copy_arena {W : World} {ops : Array Oper} {rest : List Oper} {o : Oper} {a : Act} {Q : Exit → Act → World → Prop} (hgd : o.guard = none) (d s : Operand) (ho : o.op = .call { callee := .builtin .copy, args := #[d, s], argTypes := #[37, 37] })
    (g b : Nat) (ws : List Int) (at_ n cp : Nat) (A : Option Addr) (m c : Nat) (l : List Int) (hA : ArB W g b ws) (hn : 0 < l.length) (hd : a.eval d = .slice (some ⟨b, at_, none⟩) n cp) (hs : a.eval s = .slice A m c) (hm : l.length = Nat.min m n) (hr : ReadsInt W .u64 A l.length l) (hi : at_ + l.length ≤ ws.length)
    (h : ∀ W2, Lk (W2.heap[b]? = some (.cells (nums .u64 (putW ws at_ l)).toArray 25 (0, 0))) → Lk (KeepW b W W2) → wpList Tryd.prog ops Q rest (a.put o.dst (goInt l.length)) W2) : wpList Tryd.prog ops Q (o :: rest) a W := by
  obtain ⟨ad, rfl, _⟩ := hr.2.2 hn
  have hsrc : ∀ j v, (nums .u64 l)[j]? = some v → W.cell? (ad.add j) = some v := by
    intro j v hj
    have hjl : j < l.length := by
      rcases Nat.lt_or_ge j l.length with h | h
      · exact h
      · rw [List.getElem?_eq_none (by rw [nums_length]; exact h)] at hj; cases hj
    obtain ⟨ad', e, hc⟩ := hr.at_ (j : Int) (by omega) (by omega)
    obtain rfl := Option.some.inj e
    rw [Int.toNat_natCast] at hc
    rw [hc, ← hj, nums_get _ _ _ hjl, rd_getD]
  refine wpList_copy_own hgd d s 37 37 ho 25 Tryd.underlying37 (by kernel_rfl) b at_ n cp ad m c hd hs (nums .u64 ws).toArray 25 hA.row (nums .u64 l) (by rw [nums_length]; exact hm) hsrc (by rw [nums_length, List.size_toArray, nums_length]; exact hi) (by intro v hv; unfold nums at hv; obtain ⟨x, _, rfl⟩ := List.mem_map.1 hv; rfl) ?_
  rw [nums_length]
  refine h _ ⟨?_⟩ ⟨⟨rfl, rfl, rfl, by simp [World.setRow], fun k _ hk => setRow_other W b k _ hk⟩⟩
  rw [putW_nums, nums_length]
  exact setRow_heap W b _ _ _ _ hA.row

set_option maxRecDepth 100000 in
set_option maxHeartbeats 2000000 in
theorem store_bad (g b : Nat) (ws : List Int) (at_ : Int) (A : Option Addr) (c : Nat) (l : List Int) (w : World) (h : ArB w g b ws) (hr : ReadsInt w .u64 A l.length l) (hi : inL ws.length at_ l.length = false) :
    Calls Tryd.prog 61 #[.pointer (some ⟨g, 0, none⟩), .int .i64 at_, .slice A l.length c] w fun e w' => e = .returned (.int .i64 2) ∧ Below w.heap.size w w' := by
  have h0 : Below w.heap.size w (w.alloc (.cells #[.int .i64 0] 33)) := below_alloc (Below.refl _ _) _
  have HP := Lk.mk (part_bad g b ws at_ l.length _ (h.below h0) hi)
  have HE := Lk.mk (blk_new w (.cells #[.int .i64 0] 33))
  have hm := hr.2.1
  clear h hi h0 hr
  go_enter_defers Tryd.func61, Tryd.ntmps61
  go_wp2_with (go_at_call 81; (with_reducible refine (HP.out).mono ?_); rintro e w' ⟨rfl, rfl⟩)
  refine leaves_cons (f := 79) (args := #[.pointer (some ⟨w.heap.size, 0, none⟩)]) (by simp) (by simp [go_sem]) ?_
  refine (caught_thrown w.heap.size 0 _ ?_ ?_).mono ?_
  · rw [blk_cell HE.out 0]; rfl
  · exact blk_frozen HE.out 0
  rintro e u' w'' ⟨rfl, rfl, rfl⟩
  simp [Leaves, settle, results, Tryd.results61, go_sem]
  exact below_alloc (below_alloc (Below.refl _ _) _) _

set_option maxRecDepth 100000 in
set_option maxHeartbeats 2000000 in
theorem store_none (g b : Nat) (ws : List Int) (at_ : Int) (A : Option Addr) (c : Nat) (w : World) (h : ArB w g b ws) (hi : inL ws.length at_ 0 = true) :
    Calls Tryd.prog 61 #[.pointer (some ⟨g, 0, none⟩), .int .i64 at_, .slice A 0 c] w fun e w' => e = .returned (.int .i64 0) ∧ Below w.heap.size w w' := by
  have h0 : Below w.heap.size w (w.alloc (.cells #[.int .i64 0] 33)) := below_alloc (Below.refl _ _) _
  have HP := Lk.mk (part_none g b ws at_ _ (h.below h0) hi)
  have HE := Lk.mk (blk_new w (.cells #[.int .i64 0] 33))
  clear h hi h0
  go_enter_defers Tryd.func61, Tryd.ntmps61
  go_wp2_with (first | (go_at_call 81; (with_reducible refine (HP.out).mono ?_); rintro e w' ⟨rfl, rfl⟩) | (with_reducible refine wpList_copy_nothing rfl (.tmp 11) (.tmp 12) 37 37 rfl 25 Tryd.underlying37 (by kernel_rfl) none A 0 0 0 c rfl rfl rfl ?_))
  refine leaves_cons (f := 79) (args := #[.pointer (some ⟨w.heap.size, 0, none⟩)]) (by simp) (by simp [go_sem]) ?_
  refine (caught_idle _ _).mono ?_
  rintro e u' w'' ⟨rfl, rfl, rfl⟩
  simp [Leaves, settle, results, Tryd.results61, go_sem]
  exact below_alloc (Below.refl _ _) _

set_option maxRecDepth 100000 in
set_option maxHeartbeats 2000000 in
theorem store_some (g b : Nat) (ws : List Int) (at_ : Nat) (ad : Addr) (c : Nat) (l : List Int) (w : World) (h : ArB w g b ws) (hr : ReadsInt w .u64 (some ad) l.length l) (hw : Bm.Words l) (hi : at_ + l.length ≤ ws.length) (hn : 0 < l.length) :
    Calls Tryd.prog 61 #[.pointer (some ⟨g, 0, none⟩), .int .i64 at_, .slice (some ad) l.length c] w fun e w' => e = .returned (.int .i64 0) ∧ ArB w' g b (putW ws at_ l) ∧ KeepW b w w' := by
  have h0 : Below w.heap.size w (w.alloc (.cells #[.int .i64 0] 33)) := below_alloc (Below.refl _ _) _
  have hA := h.below h0
  have HP := Lk.mk (part_some g b ws at_ l.length _ hA hi hn)
  have HE := Lk.mk (blk_new w (.cells #[.int .i64 0] 33))
  have HR := Lk.mk (hr.below h0)
  have HA := Lk.mk hA
  have HW := Lk.mk hw
  have hm := hr.2.1
  have hbl := h.lt
  have HI := Lk.mk hi
  have HN := Lk.mk hn
  have HA0 := Lk.mk h
  clear h h0 hr hw hA
  go_enter_defers Tryd.func61, Tryd.ntmps61
  go_wp2_with (first | (go_at_call 81; (with_reducible refine (HP.out).mono ?_); rintro e w' ⟨rfl, rfl⟩) | ((with_reducible refine copy_arena rfl (.tmp 11) (.tmp 12) rfl g b ws at_ l.length (ws.length - at_) (some ad) l.length c l HA.out HN.out rfl rfl (Nat.min_self _).symm HR.out HI.out ?_); intro W2 HROW HK; have hE2 := (HK.out.block w.heap.size (blk_lt HE.out) (Nat.ne_of_gt hbl)).trans HE.out; have hcE := blk_cell hE2 0; have hzE := blk_frozen hE2 0; have HE2 := Lk.mk hE2; simp only [List.getElem?_toArray, List.getElem?_cons_zero] at hcE; clear hE2))
  refine leaves_cons (f := 79) (args := #[.pointer (some ⟨w.heap.size, 0, none⟩)]) (by simp) (by simp [go_sem]) ?_
  refine (caught_idle _ _).mono ?_
  rintro e u' w'' ⟨rfl, rfl, rfl⟩
  have hcE2 := blk_cell (blk_put (cs' := #[.int .i64 0]) HE2.out 0 (.int .i64 0) rfl) 0
  simp only [List.getElem?_toArray, List.getElem?_cons_zero] at hcE2
  have HK2 := (KeepW.of_below (below_alloc (Below.refl w.heap.size w) (.cells #[.int .i64 0] 33)) b).trans HK.out
  have HK3 : KeepW b w (W2.setCell ⟨w.heap.size, 0, none⟩ (.int .i64 0)) := ⟨HK2.os, HK2.tape, HK2.output, by simpa [World.setCell] using HK2.size, fun k hk hkb => (Below.heap_setCell W2 ⟨w.heap.size, 0, none⟩ _ k (by show k ≠ w.heap.size; omega)).trans (HK2.block k hk hkb)⟩
  simp [Leaves, settle, results, Tryd.results61, go_sem]
  rw [hcE2]
  exact ⟨_, rfl, rfl, HA0.out.wrote HK3 at_ l hi HW.out (blk_far HROW.out (p := ⟨w.heap.size, 0, none⟩) (Nat.ne_of_lt hbl) _), HK3⟩
theorem store_ok (g b : Nat) (ws : List Int) (at_ : Nat) (A : Option Addr) (c : Nat) (l : List Int) (w : World) (h : ArB w g b ws) (hr : ReadsInt w .u64 A l.length l) (hw : Bm.Words l) (hi : at_ + l.length ≤ ws.length) :
    Calls Tryd.prog 61 #[.pointer (some ⟨g, 0, none⟩), .int .i64 at_, .slice A l.length c] w fun e w' => e = .returned (.int .i64 0) ∧ ArB w' g b (putW ws at_ l) ∧ KeepW b w w' := by
  rcases Nat.eq_zero_or_pos l.length with h0 | h0
  · obtain rfl := List.eq_nil_of_length_eq_zero h0
    refine (store_none g b ws at_ A c w h (by unfold inL; simp only [Bool.and_eq_true, decide_eq_true_eq]; simp at hi; omega)).mono ?_
    rintro e w' ⟨rfl, hb⟩
    rw [putW_nil]
    exact ⟨rfl, h.below hb, KeepW.of_below hb b⟩
  · obtain ⟨ad, rfl, _⟩ := hr.2.2 h0
    exact store_some g b ws at_ ad c l w h hr hw hi h0
theorem zero64 (w : World) : (zeroValue 25).run Tryd.prog w = .ok (.int .u64 0) w := by kernel_rfl
theorem clear_arena {W : World} {g b : Nat} {ws : List Int} (hA : ArB W g b ws) (at_ n cp : Nat) (hn : 0 < n) (hi : at_ + n ≤ ws.length) :
    ∃ W2, (∀ ty, (Builtin.clear_ #[37] ty #[.slice (some ⟨b, at_, none⟩) n cp]).run Tryd.prog W = .ok (.tuple #[]) W2) ∧ W2.heap[b]? = some (.cells (nums .u64 (putW ws at_ (List.replicate n 0))).toArray 25 (0, 0)) ∧ KeepW b W W2 := by
  have hrow := hA.row
  have hlen : (nums .u64 ws).toArray.size = ws.length := by rw [List.size_toArray, nums_length]
  refine ⟨W.setCells b at_ (List.replicate n (.int .u64 0)), fun ty => Lib.run_clear_slice W 37 25 ty (.int .u64 0) Tryd.underlying37 zero64 rfl rfl b at_ n cp hn (fun j hj => ?_) (fun j hj => blk_frozen hrow _), ?_, ?_⟩
  · rw [hA.at_ (at_ + j) (by omega)]; rfl
  · obtain ⟨cur', h1, _, h3⟩ := setCells_row (List.replicate n (.int .u64 0)) at_ W _ hrow (by rw [List.length_replicate, hlen]; exact hi)
    rw [h1]
    have e1 : nums .u64 (List.replicate n 0) = List.replicate n (.int .u64 0) := by unfold nums; rw [List.map_replicate]
    have e : cur' = (nums .u64 (putW ws at_ (List.replicate n 0))).toArray := by
      rw [← Array.toArray_toList (xs := cur'), h3, putW_nums, nums_length, List.length_replicate, List.length_replicate, e1]
      simp
    rw [e]
  · obtain ⟨h1, h2, h3, h4⟩ := setCells_same b (List.replicate n (.int .u64 0)) at_ W
    exact ⟨h1, h2, h3, by rw [h4]; exact Nat.le_refl _, fun k _ hk => setCells_far _ _ k hk⟩
set_option maxRecDepth 100000 in
set_option maxHeartbeats 2000000 in
theorem zero_some (g b : Nat) (ws : List Int) (at_ n : Nat) (w : World) (h : ArB w g b ws) (hi : at_ + n ≤ ws.length) (hn : 0 < n) :
    Calls Tryd.prog 77 #[.pointer (some ⟨g, 0, none⟩), .int .i64 at_, .int .i64 n] w fun e w' => e = .returned (.int .i64 0) ∧ ArB w' g b (putW ws at_ (List.replicate n 0)) ∧ KeepW b w w' := by
  have h0 : Below w.heap.size w (w.alloc (.cells #[.int .i64 0] 33)) := below_alloc (Below.refl _ _) _
  have hA := h.below h0
  have HP := Lk.mk (part_some g b ws at_ n _ hA hi hn)
  have HE := Lk.mk (blk_new w (.cells #[.int .i64 0] 33))
  have hbl := h.lt
  obtain ⟨W2, hcl, hrow, hk⟩ := clear_arena hA at_ n (ws.length - at_) hn hi
  have hE2 := (hk.block w.heap.size (blk_lt HE.out) (Nat.ne_of_gt hbl)).trans HE.out
  have hcE := blk_cell hE2 0
  have hzE := blk_frozen hE2 0
  have HE2 := Lk.mk hE2
  simp only [List.getElem?_toArray, List.getElem?_cons_zero] at hcE
  have HK := Lk.mk hk
  have HROW := Lk.mk hrow
  have HA0 := Lk.mk h
  clear h h0 hA hE2 hk hrow
  go_enter_defers Tryd.func77, Tryd.ntmps77
  go_wp2_with (go_at_call 81; (with_reducible refine (HP.out).mono ?_); rintro e w' ⟨rfl, rfl⟩)
  refine leaves_cons (f := 79) (args := #[.pointer (some ⟨w.heap.size, 0, none⟩)]) (by simp) (by simp [go_sem]) ?_
  refine (caught_idle _ _).mono ?_
  rintro e u' w'' ⟨rfl, rfl, rfl⟩
  have hcE2 := blk_cell (blk_put (cs' := #[.int .i64 0]) HE2.out 0 (.int .i64 0) rfl) 0
  simp only [List.getElem?_toArray, List.getElem?_cons_zero] at hcE2
  have HK2 := (KeepW.of_below (below_alloc (Below.refl w.heap.size w) (.cells #[.int .i64 0] 33)) b).trans HK.out
  have HK3 : KeepW b w (W2.setCell ⟨w.heap.size, 0, none⟩ (.int .i64 0)) := ⟨HK2.os, HK2.tape, HK2.output, by simpa [World.setCell] using HK2.size, fun k hk hkb => (Below.heap_setCell W2 ⟨w.heap.size, 0, none⟩ _ k (by show k ≠ w.heap.size; omega)).trans (HK2.block k hk hkb)⟩
  simp [Leaves, settle, results, Tryd.results77, go_sem]
  rw [hcE2]
  exact ⟨_, rfl, rfl, HA0.out.wrote HK3 at_ _ (by rw [List.length_replicate]; exact hi) (words_zero _) (blk_far HROW.out (p := ⟨w.heap.size, 0, none⟩) (Nat.ne_of_lt hbl) _), HK3⟩
end Go.Proofs.YtbikdngpannekaaDoor
