/-
  Own rows of strings: appends; the words of a line; conditions: none.
-/
import Derived.Test.YtpnklpjjbpheeaaGreatDoorZf
import Derived.Lib.ConvBytes
import Derived.Laws.BytesArg
import Derived.Laws.Rows
import Derived.Deep.RegionHeld3
namespace Go.Proofs.YtpnklpjjbpheeaaGreatDoor
open Go.RowKit Go.Proofs.YtpnklpjjbpheeaaGreatDoorW.PrintWords
open Go.Proofs.Fl Go.Proofs.YtpnklpjjbpheeaaGreatDoor.Flt

/-- an own row of words -/
def OwnW (w : World) (base : Nat) (v : Value) (xs : List ByteArray) : Prop := w.ownsRow base 9 1 v xs.length (encs Value.string xs)
theorem infoStr : (Tryz.prog.info? 9).map (fun i => (i.zero, i.size, i.bytes)) = some (some (.string ⟨#[]⟩), 1, 16) := by kernel_rfl
theorem words_reads {W : World} {g : Nat} {l : List ByteArray} (h : WordsAt W g l) (hl : l.length ≤ 100000) : ReadsOf Value.string ByteArray.empty W (some ⟨g, 0, none⟩) l.length l := by
  refine ⟨rfl, by omega, fun _ => ⟨_, rfl, fun j hj => ?_⟩⟩
  have h1 := blk_cell h j
  rw [List.getElem?_toArray, List.getElem?_map, List.getElem?_eq_getElem hj] at h1
  rw [List.getD_eq_getElem?_getD, List.getElem?_eq_getElem hj]
  have h2 : (⟨g, 0, none⟩ : Addr).add j = ⟨g, j, none⟩ := by unfold Addr.add; by_cases h0 : j = 0 <;> simp [h0]
  rw [h2]
  exact h1
theorem OwnW.lit (W : World) (base : Nat) (xs : List ByteArray) (hb : base ≤ W.heap.size) (hl : xs.length ≤ 100000) : OwnW (W.alloc (.cells (xs.map Value.string).toArray 9)) base (.slice (some ⟨W.heap.size, 0, none⟩) xs.length xs.length) xs :=
  own_lit_of (enc := Value.string) W base 9 xs hb (by omega)
theorem OwnW.below {w w1 : World} {base : Nat} {v : Value} {xs : List ByteArray} (h : OwnW w base v xs) (hb : Below w.heap.size w w1) : OwnW w1 base v xs := pw_own_below h hb
theorem OwnW.alloc {w : World} {base : Nat} {v : Value} {xs : List ByteArray} (h : OwnW w base v xs) (o : Obj) : OwnW (w.alloc o) base v xs := own_alloc h o
theorem OwnW.iter {w : World} {base : Nat} {v : Value} {xs : List ByteArray} {k p q : Nat} {F : ByteArray} (h : OwnW w base v xs) (hk : w.heap[k]? = some (.stringIter F p)) : OwnW (w.iterAt k F q) base v xs :=
  own_move h fun j hj => iter_far w k F q j fun he => by
    subst he
    obtain ⟨cells, hc⟩ := own_typed h _ hj
    rw [hk] at hc
    cases hc
theorem OwnW.start {w : World} {base : Nat} {v : Value} {xs : List ByteArray} (F : ByteArray) (h : OwnW w base v xs) : OwnW (w.iter F 0) base v xs :=
  own_move h fun j hj => start_at w F j (own_lt h j hj)
/-- what is no row of strings stays -/
def Stays (w w1 : World) : Prop := ∀ (k : Nat) (o : Obj), w.heap[k]? = some o → (∀ cs, o ≠ Obj.cells cs 9 (0, 0)) → w1.heap[k]? = some o
theorem stays_of {w w1 : World} {base : Nat} {v : Value} {xs : List ByteArray} (h : OwnW w base v xs) (hg : w.grownBy w1 v.ownBlock) : Stays w w1 := fun k o hk hn => by
  have hlt : k < w.heap.size := by
    rcases Nat.lt_or_ge k w.heap.size with h1 | h1
    · exact h1
    · rw [Array.getElem?_eq_none h1] at hk; cases hk
  rw [hg.block k hlt (fun he => by
    obtain ⟨cells, hc⟩ := own_typed h k he.symm
    rw [hk] at hc
    exact hn cells (Option.some.inj hc))]
  exact hk
section
variable {ops : Array Oper} {rest : List Oper} {o : Oper} {a : Act} {Q : Exit → Act → World → Prop}
theorem app_words {w0 W : World} (base : Nat) (hgd : o.guard = none) (s x : Operand) (ho : o.op = .call { callee := .builtin .append, args := #[s, x], argTypes := #[34, 34] })
    (v : Value) (xs ys : List ByteArray) (g m c : Nat) (hs : a.eval s = v) (hx : a.eval x = .slice (some ⟨g, 0, none⟩) m c) (hm : ys.length = m)
    (HO : OwnW W base v xs) (HW : WordsAt W g ys) (HB : Below base w0 W) (hbase : base ≤ W.heap.size) (hl : xs.length + ys.length ≤ 100000)
    (h : ∀ v1 w1, OwnW w1 base v1 (xs ++ ys) → Below base w0 w1 → Stays W w1 → wpList Tryz.prog ops Q rest (a.put o.dst v1) w1) :
    wpList Tryz.prog ops Q (o :: rest) a W := by
  subst hm
  refine print_append_row_of (w0 := w0) Value.string ByteArray.empty base hgd s x 34 9 _ 16 ho Tryz.underlying34 infoStr rfl (by decide) (fun _ => rfl) v xs ys (some ⟨g, 0, none⟩) ys.length c hs hx HO (words_reads HW (by omega)) HB hbase (by omega) ?_
  intro v1 w1 hown hb hg _
  exact h v1 w1 hown hb (stays_of HO hg)
set_option maxRecDepth 100000 in
theorem app_step {K : Act → World → Prop} {w0 W : World} (base : Nat) (hw : Region.wanted o (yielded ops a.tmps) = true) (s x : Operand) (ho : o.op = .call { callee := .builtin .append, args := #[s, x], argTypes := #[34, 34] })
    (v : Value) (xs ys : List ByteArray) (g m c : Nat) (hs : a.eval s = v) (hx : a.eval x = .slice (some ⟨g, 0, none⟩) m c) (hm : ys.length = m)
    (HO : OwnW W base v xs) (HW : WordsAt W g ys) (HB : Below base w0 W) (hbase : base ≤ W.heap.size) (hl : xs.length + ys.length ≤ 100000)
    (h : ∀ v1 w1, OwnW w1 base v1 (xs ++ ys) → Below base w0 w1 → Stays W w1 → K (a.put o.dst v1) w1) :
    if Region.wanted o (yielded ops a.tmps) = true then Oper.wp Tryz.prog o a W K Q else K (a.put o.dst undef) W := by
  subst hm
  rw [if_pos hw]
  obtain ⟨i0, hi, hzz⟩ := Option.map_eq_some_iff.1 infoStr
  simp only [Prod.mk.injEq] at hzz
  obtain ⟨hz0, hz1, hz2⟩ := hzz
  have hcells : ∀ j u, (encs Value.string ys)[j]? = some u → W.cell? ((⟨g, 0, none⟩ : Addr).add j) = some u := by
    intro j u hu
    have hj : j < ys.length := by
      rcases Nat.lt_or_ge j ys.length with h | h
      · exact h
      · simp [encs, List.getElem?_eq_none h] at hu
    obtain ⟨ad', h', hc⟩ := (words_reads HW (by omega)).2.2 (by omega)
    injection h' with h'
    subst h'
    rw [encs_get (d := ByteArray.empty) ys j hj] at hu
    rw [← hu]
    exact hc j hj
  obtain ⟨v1, w1, hr, hown, hg, _, _⟩ := run_append_own_at (P := Tryz.prog) W base 34 o.type 9 i0 (.string ⟨#[]⟩) 1 16 Tryz.underlying34 hi hz0 hz1 hz2 rfl (by decide) v xs.length (encs Value.string xs) HO ⟨g, 0, none⟩ ys.length c (encs Value.string ys) (by simp [encs]) hcells
    (by intro u hu; simp only [encs, List.mem_map] at hu; obtain ⟨q, _, rfl⟩ := hu; rfl) (by simp only [maxLen]; omega) (by omega) hbase
  have hown' : OwnW w1 base v1 (xs ++ ys) := by unfold OwnW; simpa [encs] using hown
  unfold Oper.wp execOp
  simp only [ho, resolve, invoke, builtin, Sem.run_bind, Sem.run_pure, Result.andThen_ok, List.map_toArray, List.map_cons, List.map_nil, hs, hx, hr]
  exact h v1 w1 hown' (HB.grown hg hbase (own_base HO)) (stays_of HO hg)
end
/-- the words of a field, by its letter's number -/
def fldW (g f d s : Nat) (v0 : Int) (v1 v2 v3 o : Nat) (l : List Nat) (c : Nat) : List ByteArray :=
  if c = 103 then [dec g] else if c = 102 then [dec f] else if c = 100 then [dec d, dec s] else if c = 118 then vW v0 v1 v2 v3 else if c = 98 then [tx v1] else if c = 111 then [dec o] else if c = 115 then dec d :: l.map dec else []
def lineTo (W F : ByteArray) (p : Nat) (q : Nat → List ByteArray) (i : Nat) : List ByteArray := W :: dec p :: (F.data.toList.take i).flatMap (fun c => q c.toNat)
theorem lineTo_next (W F : ByteArray) (p : Nat) (q : Nat → List ByteArray) (i : Nat) (h : i < F.size) : lineTo W F p q (i + 1) = lineTo W F p q i ++ q (F[i]'h).toNat := by
  unfold lineTo
  rw [List.take_add_one, List.getElem?_eq_getElem (by simpa using h), By.get_eq F i h, List.flatMap_append]
  simp
theorem fldW_len (g f d s : Nat) (v0 : Int) (v1 v2 v3 o : Nat) (l : List Nat) (c : Nat) : (fldW g f d s v0 v1 v2 v3 o l c).length ≤ l.length + 3 := by
  unfold fldW vW
  repeat' split
  all_goals simp
theorem lineTo_len (W F : ByteArray) (p : Nat) (q : Nat → List ByteArray) (n : Nat) (h : ∀ c, (q c).length ≤ n) (i : Nat) : (lineTo W F p q i).length ≤ 2 + i * n := by
  have key : ∀ (t : List UInt8), (t.flatMap (fun c => q c.toNat)).length ≤ t.length * n := by
    intro t
    induction t with
    | nil => simp
    | cons a t ih =>
      rw [List.flatMap_cons, List.length_append, List.length_cons, Nat.succ_mul]
      have := h a.toNat
      omega
  have h1 := key (F.data.toList.take i)
  have h2 : (F.data.toList.take i).length ≤ i := by rw [List.length_take]; omega
  have h3 := Nat.mul_le_mul_right n h2
  unfold lineTo
  simp only [List.length_cons]
  omega
theorem decDigits_small (m : Nat) : ∀ n, n ≤ m → (Lib.decDigits n).length ≤ n + 1 := by
  induction m with
  | zero => intro n hn; rw [dec_small n (by omega)]; simp
  | succ m ih =>
    intro n hn
    by_cases h9 : n < 10
    · rw [dec_small n h9]; simp
    · rw [dec_big n h9, List.length_append]
      have := ih (n / 10) (by omega)
      simp only [List.length_cons, List.length_nil]
      omega
theorem dec_size (n : Nat) : (dec n).size ≤ n + 1 := by
  have := decDigits_small n n (Nat.le_refl _)
  unfold dec
  show (Lib.decDigits n).toArray.size ≤ _
  simpa using this
theorem join_small (b : Nat) (l : List ByteArray) (h : ∀ x ∈ l, x.size ≤ b) : (Lib.join (l.map (·.data.toList)) [32]).length ≤ (b + 1) * l.length := by
  have key : ∀ t : List ByteArray, (∀ x ∈ t, x.size ≤ b) → (Lib.joinTail [32] (t.map (·.data.toList))).length ≤ (b + 1) * t.length := by
    intro t
    induction t with
    | nil => intro _; simp [Lib.joinTail]
    | cons a t ih =>
      intro ht
      have h1 := ih (fun x hx => ht x (List.mem_cons_of_mem _ hx))
      have h2 : a.data.toList.length ≤ b := by have := ht a (List.mem_cons_self ..); simpa using this
      unfold Lib.joinTail at h1 ⊢
      simp only [List.map_cons, List.flatten_cons, List.length_append, List.length_cons, List.length_nil, Nat.mul_succ] at h1 ⊢
      omega
  cases l with
  | nil => simp [Lib.join, List.intercalate]
  | cons a t =>
    rw [List.map_cons, Lib.join_cons, List.length_append]
    have h1 := key t (fun x hx => h x (List.mem_cons_of_mem _ hx))
    have h2 : a.data.toList.length ≤ b := by have := h a (List.mem_cons_self ..); simpa using this
    simp only [List.length_cons, Nat.mul_succ]
    omega
theorem fldW_small (g f d s : Nat) (v0 : Int) (v1 v2 v3 o : Nat) (l : List Nat) (c : Nat) (hg : g ≤ 1000000) (hf : f ≤ 1000000) (hd : d ≤ 1000000) (hs : s ≤ 1000000) (h2 : v2 ≤ 1000000) (h3 : v3 ≤ 1000000) (ho : o ≤ 1000000) (hl : ∀ y ∈ l, y ≤ 1000000) : ∀ x ∈ fldW g f d s v0 v1 v2 v3 o l c, x.size ≤ 1000001 := by
  have key : ∀ n, n ≤ 1000000 → (dec n).size ≤ 1000001 := fun n hn => Nat.le_trans (dec_size n) (by omega)
  have kt : (tx v1).size ≤ 1000001 := by rw [tx_size]; decide
  have k1 : (⟨#[98, 105, 116, 115]⟩ : ByteArray).size ≤ 1000001 := by decide
  have k2 : (⟨#[114, 101, 102]⟩ : ByteArray).size ≤ 1000001 := by decide
  have k3 : (⟨#[110, 105, 108]⟩ : ByteArray).size ≤ 1000001 := by decide
  intro x hx
  unfold fldW vW at hx
  repeat' split at hx
  all_goals simp only [List.mem_cons, List.mem_map, List.not_mem_nil, or_false] at hx
  all_goals (try (rcases hx with rfl | rfl | rfl))
  all_goals (try (rcases hx with rfl | rfl))
  all_goals (try subst hx)
  all_goals (first | assumption | (exact key _ (by assumption)) | skip)
  rcases hx with rfl | ⟨y, hy, rfl⟩
  · exact key _ hd
  · exact key _ (hl y hy)
end Go.Proofs.YtpnklpjjbpheeaaGreatDoor
