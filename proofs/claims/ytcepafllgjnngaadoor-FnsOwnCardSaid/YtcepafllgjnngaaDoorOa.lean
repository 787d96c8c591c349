/-
  Rows of functions of one's own as far as one may write into them; append of a row as a step of a region; conditions: none.
-/
import Derived.Test.YtcepafllgjnngaaDoorBu
import Derived.Test.YtcepafllgjnngaaDoorBv
import Derived.Test.YtcepafllgjnngaaDoorBw
namespace Go.Proofs.YtcepafllgjnngaaDoor
open Go.RowKit Go.Proofs.YtcepafllgjnngaaDoorW.PrintWords

/-- words of one's own -/
def Wd (W : World) (P : Nat → Prop) (A : Option Addr) (l : Nat) : Prop := 0 < l → ∃ q cells, A = some ⟨q, 0, none⟩ ∧ P q ∧ W.heap[q]? = some (.cells cells 23 (0, 0)) ∧ l ≤ cells.size
/-- a row of functions of one's own: where it is, how many; its words -/
def Sh (W : World) (P : Nat → Prop) (g n : Nat) : Prop := P g ∧ ∃ arr, W.heap[g]? = some (.cells arr 28 (0, 0)) ∧ ∀ i, i < n → ∃ s A l c, arr[i * 2]? = some (.int .i64 s) ∧ arr[i * 2 + 1]? = some (.slice A l c) ∧ l ≤ 9223372036854775807 ∧ Wd W P A l
theorem Wd.below {W W' : World} {P : Nat → Prop} {A : Option Addr} {l : Nat} (h : Wd W P A l) (hb : Below W.heap.size W W') : Wd W' P A l := fun hl => by
  obtain ⟨q, cells, e, hp, hh, hs⟩ := h hl
  exact ⟨q, cells, e, hp, blk_below hh hb, hs⟩
theorem Wd.set {W : World} {P : Nat → Prop} {A : Option Addr} {l : Nat} (h : Wd W P A l) (q j : Nat) (u : Value) : Wd (W.setCell ⟨q, j, none⟩ u) P A l := fun hl => by
  obtain ⟨q', cells', e, hp, hh, hs⟩ := h hl
  by_cases hqq : q' = q
  · subst hqq
    exact ⟨q', _, e, hp, blk_set hh j u, by rw [Array.size_setIfInBounds]; exact hs⟩
  · exact ⟨q', cells', e, hp, (Below.heap_setCell W ⟨q, j, none⟩ u q' hqq).trans hh, hs⟩
theorem Sh.below {W W' : World} {P : Nat → Prop} {g n : Nat} (h : Sh W P g n) (hb : Below W.heap.size W W') : Sh W' P g n := by
  obtain ⟨hp, arr, ha, hi⟩ := h
  refine ⟨hp, arr, blk_below ha hb, fun i hin => ?_⟩
  obtain ⟨s, A, l, c, h0, h1, h2, h3⟩ := hi i hin
  exact ⟨s, A, l, c, h0, h1, h2, h3.below hb⟩
theorem Sh.set {W : World} {P : Nat → Prop} {g n : Nat} (h : Sh W P g n) {q : Nat} (hne : g ≠ q) (j : Nat) (u : Value) : Sh (W.setCell ⟨q, j, none⟩ u) P g n := by
  obtain ⟨hp, arr, ha, hi⟩ := h
  refine ⟨hp, arr, (Below.heap_setCell W ⟨q, j, none⟩ u g hne).trans ha, fun i hin => ?_⟩
  obtain ⟨s, A, l, c, h0, h1, h2, h3⟩ := hi i hin
  exact ⟨s, A, l, c, h0, h1, h2, h3.set q j u⟩
theorem Sh.size {W : World} {P : Nat → Prop} {g n : Nat} (h : Sh W P g n) (k : Nat) (z : Int) : Sh (W.setCell ⟨g, k * 2, none⟩ (.int .i64 z)) P g n := by
  obtain ⟨hp, arr, ha, hi⟩ := h
  refine ⟨hp, _, blk_set ha (k * 2) (.int .i64 z), fun i hin => ?_⟩
  obtain ⟨s, A, l, c, h0, h1, h2, h3⟩ := hi i hin
  have hlt : i * 2 < arr.size := by
    rcases Nat.lt_or_ge (i * 2) arr.size with h | h
    · exact h
    · rw [Array.getElem?_eq_none h] at h0; cases h0
  by_cases hik : i = k
  · subst hik
    refine ⟨z, A, l, c, by rw [Array.getElem?_setIfInBounds_self_of_lt hlt], ?_, h2, h3.set g _ _⟩
    rw [Array.getElem?_setIfInBounds_ne (by omega)]; exact h1
  · refine ⟨s, A, l, c, ?_, ?_, h2, h3.set g _ _⟩
    · rw [Array.getElem?_setIfInBounds_ne (by omega)]; exact h0
    · rw [Array.getElem?_setIfInBounds_ne (by omega)]; exact h1
theorem Sh.ne {W : World} {P : Nat → Prop} {g n q : Nat} {cells : Array Value} {t : TypeId} (h : Sh W P g n) (hq : W.heap[q]? = some (.cells cells t (0, 0))) (ht : t ≠ 28) : g ≠ q := by
  rintro rfl
  obtain ⟨_, arr, ha, _⟩ := h
  rw [ha] at hq
  injection hq with hq
  injection hq with _ h2 _
  exact ht h2.symm
theorem Sh.imp {W : World} {P Q : Nat → Prop} {g n : Nat} (h : Sh W P g n) (hi : ∀ k, P k → Q k) : Sh W Q g n := by
  obtain ⟨hp, arr, ha, hj⟩ := h
  refine ⟨hi _ hp, arr, ha, fun i hin => ?_⟩
  obtain ⟨s, A, l, c, h0, h1, h2, h3⟩ := hj i hin
  exact ⟨s, A, l, c, h0, h1, h2, fun hl => by obtain ⟨q, cells, e, hp, r⟩ := h3 hl; exact ⟨q, cells, e, hi _ hp, r⟩⟩
theorem Sh.at_ {W : World} {P : Nat → Prop} {g n : Nat} (h : Sh W P g n) (i : Nat) (hi : i < n) : ∃ s A l c, W.cell? ⟨g, i * 2, none⟩ = some (.int .i64 s) ∧ W.cell? ⟨g, i * 2 + 1, none⟩ = some (.slice A l c) ∧ l ≤ 9223372036854775807 ∧ Wd W P A l := by
  obtain ⟨_, arr, ha, hj⟩ := h
  obtain ⟨s, A, l, c, h0, h1, h2, h3⟩ := hj i hi
  exact ⟨s, A, l, c, (blk_cell ha _).trans h0, (blk_cell ha _).trans h1, h2, h3⟩
theorem Sh.frozen {W : World} {P : Nat → Prop} {g n : Nat} (h : Sh W P g n) (j : Nat) : W.frozen? ⟨g, j, none⟩ = false := by
  obtain ⟨_, arr, ha, _⟩ := h
  exact blk_frozen ha j
theorem sh_row {w : World} {base : Nat} {ok : Nat → Prop} {v : Value} {xs : List (Int × List Int)} (h : kF.R 28 w base ok v xs) (hp : 0 < xs.length) : ∃ g c, v = .slice (some ⟨g, 0, none⟩) xs.length c ∧ Sh w (fun k => base ≤ k ∧ k < w.heap.size) g xs.length := by
  have h2 := Kd.R_mono (Kd.R_bound h) (fun k hk => (⟨hk.2.1, hk.2.2.1⟩ : base ≤ k ∧ k < w.heap.size))
  obtain ⟨g, cap, rfl, _, _⟩ := Kd.R_form h hp
  obtain ⟨arr, ha⟩ := Kd.R_typed h2 g (by simp [Value.ownBlock])
  refine ⟨g, cap, rfl, h2.1 g (by simp [Value.ownBlock]), arr, ha, fun i hi => ?_⟩
  obtain ⟨c, hcl, ⟨c0, c1, rfl, rfl, v', rfl, hR⟩, hc, _⟩ := Kd.R_elem h2 dF (i : Int) (by omega) (by omega)
  rw [Int.toNat_natCast] at hc hR
  have e0 := hc 0 _ rfl
  have e1 := hc 1 _ rfl
  obtain ⟨A, c', rfl, _, hC⟩ := Kd.R_reads hR
  refine ⟨_, A, _, c', (blk_cell ha _).symm.trans e0, (blk_cell ha _).symm.trans e1, Kd.C_max hC, fun hl => ?_⟩
  obtain ⟨q, cap2, hq, _, _⟩ := Kd.R_form hR hl
  injection hq with hq1 hq2 hq3
  subst hq1
  obtain ⟨inner, ho, _⟩ := hR.2
  rcases ho.2 with ⟨hz, _⟩ | ⟨g', cap', cur, hz, _, hh, hn, _, hs, _⟩
  · cases hz
  · injection hz with hz1 _ _
    injection hz1 with hz1
    injection hz1 with hz1
    subst hz1
    exact ⟨_, cur, rfl, (hR.1 _ (by simp [Value.ownBlock])).1, hh, by rw [hs]; show _ ≤ cap' * 1; omega⟩
/-- what stays while one writes into what was handed in and what was answered: w1, w2: ahead of the table's making, and behind it -/
structure OwnInv (w w1 w2 : World) (go gg n : Nat) (W : World) : Prop where
  below : Below w.heap.size w W
  size : w2.heap.size ≤ W.heap.size
  tbl : ∀ k, w1.heap.size ≤ k → k < w2.heap.size → W.heap[k]? = w2.heap[k]?
  own : Sh W (fun k => w.heap.size ≤ k ∧ k < w1.heap.size) go n
  got : Sh W (fun k => w2.heap.size ≤ k) gg n
theorem OwnInv.then_ {w w1 w2 W W' : World} {go gg n : Nat} (h : OwnInv w w1 w2 go gg n W) (hb : Below W.heap.size W W') : OwnInv w w1 w2 go gg n W' :=
  ⟨below_then h.below h.below.size hb, Nat.le_trans h.size hb.size, fun k h1 h2 => (hb.block k (Nat.lt_of_lt_of_le h2 h.size)).trans (h.tbl k h1 h2), h.own.below hb, h.got.below hb⟩
theorem OwnInv.set {w w1 w2 W : World} {go gg n : Nat} (h : OwnInv w w1 w2 go gg n W) (h01 : w.heap.size ≤ w1.heap.size) (h12 : w1.heap.size ≤ w2.heap.size) {q : Nat} (hr : (w.heap.size ≤ q ∧ q < w1.heap.size) ∨ w2.heap.size ≤ q) (hg : go ≠ q) (hg2 : gg ≠ q) (j : Nat) (u : Value) : OwnInv w w1 w2 go gg n (W.setCell ⟨q, j, none⟩ u) :=
  ⟨h.below.setCell (p := ⟨q, j, none⟩) (by show w.heap.size ≤ q; omega) u, by simpa [World.setCell] using h.size, fun k h1 h2 => (Below.heap_setCell W ⟨q, j, none⟩ u k (by show k ≠ q; omega)).trans (h.tbl k h1 h2), h.own.set hg j u, h.got.set hg2 j u⟩
theorem OwnInv.setSize {w w1 w2 W : World} {go gg n : Nat} (h : OwnInv w w1 w2 go gg n W) (h12 : w1.heap.size ≤ w2.heap.size) (k : Nat) (z : Int) : OwnInv w w1 w2 go gg n (W.setCell ⟨go, k * 2, none⟩ (.int .i64 z)) := by
  have hp := h.own.1
  have hp2 := h.got.1
  exact ⟨h.below.setCell (p := ⟨go, k * 2, none⟩) hp.1 _, by simpa [World.setCell] using h.size, fun i h1 h2 => (Below.heap_setCell W ⟨go, k * 2, none⟩ _ i (by show i ≠ go; omega)).trans (h.tbl i h1 h2), h.own.size k z, h.got.set (by omega) _ _⟩
section
variable {P : Program} {ops : Array Oper} {o : Oper} {a : Act} {Q : Exit → Act → World → Prop} {K : Act → World → Prop}
theorem step_append_ints {w0 W : World} (base : Nat) (hw : Region.wanted o (yielded ops a.tmps) = true) (s x : Operand) (t e : TypeId) (k : IntKind) (bytes : Nat)
    (ho : o.op = .call { callee := .builtin .append, args := #[s, x], argTypes := #[t, t] })
    (ht : P.underlying t = some (.slice e)) (hinfo : (P.info? e).map (fun i => (i.zero, i.size, i.bytes)) = some (some (.int k 0), 1, bytes)) (hb0 : 0 < bytes)
    (v : Value) (xs ys : List Int) (A : Option Addr) (m c : Nat) (hs : a.eval s = v) (hx : a.eval x = .slice A m c)
    (HO : W.ownsRow base e 1 v xs.length (nums k xs)) (HR : ReadsInt W k A m ys) (HB : Below base w0 W) (hbase : base ≤ W.heap.size) (hl : (xs.length + m) * bytes ≤ 140737488355328)
    (h : ∀ v1 w1, w1.ownsRow base e 1 v1 (xs ++ ys).length (nums k (xs ++ ys)) → Below base w0 w1 → W.grownBy w1 v.ownBlock → (v1.ownBlock = v.ownBlock ∨ ∃ b, v1.ownBlock = some b ∧ W.heap.size ≤ b) → K (a.put o.dst v1) w1) :
    if Region.wanted o (yielded ops a.tmps) = true then Oper.wp P o a W K Q else K (a.put o.dst undef) W := by
  obtain ⟨i0, hi, hzz⟩ := Option.map_eq_some_iff.1 hinfo
  simp only [Prod.mk.injEq] at hzz
  obtain ⟨hz0, hz1, hz2⟩ := hzz
  have hm : ys.length = m := HR.1
  have hlen : xs.length + m ≤ 140737488355328 := Nat.le_trans (Nat.le_mul_of_pos_right _ hb0) hl
  have hrun : ∃ v1 w1, (Builtin.append_ #[t, t] o.type #[v, .slice A m c]).run P W = .ok v1 w1 ∧ w1.ownsRow base e 1 v1 (xs ++ ys).length (nums k (xs ++ ys)) ∧ W.grownBy w1 v.ownBlock ∧ (v1.ownBlock = v.ownBlock ∨ v1.ownBlock = some W.heap.size) := by
    rcases A with _ | ad
    · have h0 : m = 0 := by
        rcases Nat.eq_zero_or_pos m with h0 | h0
        · exact h0
        · obtain ⟨ad, h, _⟩ := HR.2.2 h0
          cases h
      subst h0
      obtain rfl : ys = [] := List.eq_nil_of_length_eq_zero hm
      refine ⟨v, W, ?_, by simpa using HO, World.grownBy.refl W _, .inl rfl⟩
      rcases HO.2 with ⟨rfl, hn⟩ | ⟨g, cap, cur, rfl, _, _, hnc, _⟩
      · simp [Builtin.append_, run_underlying ht, sizeOf, typeInfo, hi, Builtin.lenOf, Builtin.firstCells]
      · simp [Builtin.append_, run_underlying ht, sizeOf, typeInfo, hi, Builtin.lenOf, Builtin.firstCells, hnc, storeCells]
    · have hcells : ∀ j u, (nums k ys)[j]? = some u → W.cell? (ad.add j) = some u := by
        intro j u hu
        have hj : j < ys.length := by
          rcases Nat.lt_or_ge j ys.length with h | h
          · exact h
          · simp [nums, List.getElem?_eq_none h] at hu
        obtain ⟨ad', h', hc⟩ := HR.2.2 (by omega)
        injection h' with h'
        subst h'
        have := hc j (by omega)
        simp [nums, List.getElem?_eq_getElem hj] at hu
        subst hu
        rw [this]
        simp [List.getD_eq_getElem?_getD, List.getElem?_eq_getElem hj]
      obtain ⟨v1, w1, hr, h2, h3, _, h5⟩ := run_append_own_at (P := P) W base t o.type e i0 (.int k 0) 1 bytes ht hi hz0 hz1 hz2 rfl (by omega) v xs.length (nums k xs) HO ad m c (nums k ys) (by simp [nums, hm]) hcells
        (by intro u hu; simp only [nums, List.mem_map] at hu; obtain ⟨q, _, rfl⟩ := hu; rfl) (by simp only [maxLen]; omega) hl hbase
      exact ⟨v1, w1, hr, by simpa [nums, hm] using h2, h3, h5⟩
  obtain ⟨v1, w1, hr, hown, hg, hat⟩ := hrun
  rw [if_pos hw]
  unfold Oper.wp execOp
  simp only [ho, resolve, invoke, builtin, Sem.run_bind, Sem.run_pure, Result.andThen_ok, List.map_toArray, List.map_cons, List.map_nil, hs, hx, hr]
  refine h v1 w1 hown (HB.grown hg hbase (own_base HO)) hg ?_
  rcases hat with hat | hat
  · exact .inl hat
  · exact .inr ⟨_, hat, Nat.le_refl _⟩
end
end Go.Proofs.YtcepafllgjnngaaDoor
