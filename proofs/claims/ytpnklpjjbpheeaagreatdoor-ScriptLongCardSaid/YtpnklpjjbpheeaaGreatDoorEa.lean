/-
  What arguments of many kinds read as: a reading that meets them gives a plain datum, and bounds its size by the reading's bulk.
-/
import Derived.Test.YtpnklpjjbpheeaaGreatDoorBr
import Derived.Lib.SmallJoins
import Derived.Deep.Strs
namespace Go.Proofs.YtpnklpjjbpheeaaGreatDoor
open Go.RowKit Go.Proofs.YtpnklpjjbpheeaaGreatDoorW.PrintWords
open Go.ChangeShapes Go.WideShapes Go.ChangeAt

theorem bulk_one {H : Type} (d : DataW H) : 1 ≤ Rows.uptoBulk d := by
  cases d with
  | lit l => cases l <;> simp [Rows.uptoBulk]
  | nil => simp [Rows.uptoBulk]
  | ptr d => simp [Rows.uptoBulk]
  | slice elems spare => simp [Rows.uptoBulk]
  | agg parts => simp [Rows.uptoBulk]
  | iface t d => simp [Rows.uptoBulk]
  | map entries => simp [Rows.uptoBulk]
  | held h => simp [Rows.uptoBulk]
theorem bulk_part {H : Type} {d : DataW H} {l : List (DataW H)} (h : d ∈ l) : Rows.uptoBulk d ≤ Rows.uptoBulkAll l := by
  induction l with
  | nil => cases h
  | cons x r ih =>
    simp only [Rows.uptoBulkAll]
    cases List.mem_cons.1 h with
    | inl e => subst e; omega
    | inr e => have := ih e; omega
theorem bulk_length {H : Type} (l : List (DataW H)) : l.length ≤ Rows.uptoBulkAll l := by
  induction l with
  | nil => simp [Rows.uptoBulkAll]
  | cons x r ih => have := bulk_one x; simp only [Rows.uptoBulkAll, List.length_cons]; omega
theorem bulk_bound {H : Type} {l : List (DataW H)} (hk : Rows.uptoSmall H l = true) : ∀ d ∈ l, Rows.uptoBulk d ≤ 1048576 := by
  intro d hd
  have h1 := of_decide_eq_true hk
  have h2 := bulk_part hd
  omega

/-- whatever is read at type t is a datum of kind k, that I says more of (B: the reading's bulk) -/
structure Op {α : Type} (W : World) (t : TypeId) (k : Kd α) (I : Nat → α → Prop) : Prop where
  read : ∀ (H : Type) (enc : TypeId × Value → H) (base : Nat) (spare : Nat → Bool) (held : Bool) (fuel : Nat) (cs : List Value) (y : DataW H × List MemPlace), DataW.trod enc Tryz.prog W base spare held fuel t cs = some y → ∃ p, k.K W p cs ∧ I (Rows.uptoBulk y.1) p
  mono : ∀ B B' p, B ≤ B' → I B p → I B' p
/-- a whole number in its kind's range -/
def Wf (k : IntKind) (x : Int) : Prop := (Lit.int k x).wf = true
theorem Op.int {W : World} {t : TypeId} {k : IntKind} (ht : Tryz.prog.underlying t = some (.int k)) : Op W t (Kd.int k) (fun _ => Wf k) := by
  refine ⟨?_, fun _ _ _ _ h => h⟩
  intro H enc base spare held fuel cs y h
  obtain ⟨s, hs, _, hwf⟩ := DataW.trod_int ht h
  exact ⟨s, hs, hwf⟩
theorem Op.slice {α : Type} [Inhabited α] {W : World} {t e : TypeId} {k : Kd α} {I : Nat → α → Prop} (ht : Tryz.prog.underlying t = some (.slice e)) (hC : Tryz.prog.cellsOf e = k.sz) (h : Op W e k I) : Op W t (Kd.slice e k) (fun B l => l.length ≤ B ∧ ∀ p ∈ l, I B p) := by
  refine ⟨?_, fun B B' l hB hl => ⟨Nat.le_trans hl.1 hB, fun p hp => h.mono _ _ _ hB (hl.2 p hp)⟩⟩
  intro H enc base spare held fuel cs y hf
  rcases Go.Deep.open_slice ht hf with ⟨hcs, _⟩ | ⟨a, n, c, m, nn, D, Pl, hcs, hb, hl, hmax, hm, hx, hel⟩
  · exact ⟨[], ⟨none, 0, hcs, Nat.le_refl _, rfl, by simp, fun h => by simp at h⟩, Nat.zero_le _, fun p hp => by cases hp⟩
  · have hbulk : ∀ i, i < n → Rows.uptoBulk (D i) ≤ Rows.uptoBulk y.1 := by
      intro i hi
      rw [hx]
      simp only [Rows.uptoBulk]
      have := bulk_part (d := D i) (l := (List.range n).map D) (List.mem_map.2 ⟨i, List.mem_range.2 hi, rfl⟩)
      omega
    have hlen2 : n ≤ Rows.uptoBulk y.1 := by
      rw [hx]
      simp only [Rows.uptoBulk]
      have := bulk_length ((List.range n).map D)
      rw [List.length_map, List.length_range] at this
      omega
    have each : ∀ i, i < n → ∃ p : α, ∃ cs : List Value, cs.length = k.sz ∧ k.K W p cs ∧ (∀ j u, cs[j]? = some u → W.cell? (a.add (i * k.sz + j)) = some u) ∧ I (Rows.uptoBulk y.1) p := by
      intro i hi
      obtain ⟨cs, hcs, htr⟩ := hel i (by rw [hm]; split <;> omega)
      rw [hC] at hcs
      obtain ⟨p, hK, hI⟩ := h.read H enc base spare held nn cs _ htr
      refine ⟨p, cs, k.K_len hK, hK, ?_, h.mono _ _ _ (hbulk i hi) hI⟩
      intro j u hj
      unfold World.cells? at hcs
      rw [if_pos (by rw [add_block]; exact hb)] at hcs
      have hj2 : j < k.sz := by
        rcases Nat.lt_or_ge j k.sz with h | h
        · exact h
        · rw [List.getElem?_eq_none (by rw [k.K_len hK]; exact h)] at hj; cases hj
      have := mapM_some_get hcs j j (by rw [List.getElem?_range hj2])
      rw [hj] at this
      rwa [Go.Deep.add_add] at this
    obtain ⟨F, hF⟩ := Go.Deep.choose_lt each
    have hlen : ((List.range n).map F).length = n := by simp
    refine ⟨(List.range n).map F, ⟨some a, c, by rw [hlen]; exact hcs, by rw [hlen]; exact hl, ⟨rfl, by rw [hlen]; simp [maxLen] at hmax; omega, fun _ => ⟨a, rfl, fun j p hj => ?_⟩⟩⟩, by rw [hlen]; exact hlen2, ?_⟩
    · rw [List.getElem?_map] at hj
      rcases Nat.lt_or_ge j n with h | h
      · rw [List.getElem?_range h] at hj
        obtain rfl : F j = p := by simpa using hj
        obtain ⟨cs, h1, h2, h3, _⟩ := hF j h
        exact ⟨cs, h1, h2, h3⟩
      · rw [List.getElem?_eq_none (by simpa using h)] at hj; cases hj
    · intro f hf
      obtain ⟨i, hi, rfl⟩ := List.mem_map.1 hf
      obtain ⟨_, _, _, _, h4⟩ := hF i (List.mem_range.1 hi)
      exact h4
/-- fields from a place on -/
structure FOp {α : Type} (W : World) (off : Nat) (fs : List Field) (k : Kd α) (I : Nat → α → Prop) : Prop where
  read : ∀ (H : Type) (enc : TypeId × Value → H) (base : Nat) (spare : Nat → Bool) (held : Bool) (fuel : Nat) (cs : List Value) (B : Nat), cs.length = off + k.sz →
    (∀ f ∈ fs, ∃ y, DataW.trod enc Tryz.prog W base spare held fuel f.type ((cs.drop f.offset).take (Tryz.prog.cellsOf f.type)) = some y ∧ Rows.uptoBulk y.1 ≤ B) → ∃ p, k.K W p (cs.drop off) ∧ I B p
  mono : ∀ B B' p, B ≤ B' → I B p → I B' p
theorem FOp.one {α : Type} {W : World} {off : Nat} {f : Field} {k : Kd α} {I : Nat → α → Prop} (ho : f.offset = off) (hc : Tryz.prog.cellsOf f.type = k.sz) (h : Op W f.type k I) : FOp W off [f] k I := by
  refine ⟨?_, h.mono⟩
  intro H enc base spare held fuel cs B hl hf
  obtain ⟨y, hy, hB⟩ := hf f (by simp)
  obtain ⟨p, hK, hI⟩ := h.read H enc base spare held fuel _ _ hy
  rw [ho, hc, List.take_of_length_le (by rw [List.length_drop]; omega)] at hK
  exact ⟨p, hK, h.mono _ _ _ hB hI⟩
theorem FOp.cons {α β : Type} {W : World} {off : Nat} {f : Field} {fs : List Field} {k : Kd α} {kr : Kd β} {I : Nat → α → Prop} {J : Nat → β → Prop} (ho : f.offset = off) (hc : Tryz.prog.cellsOf f.type = k.sz) (h : Op W f.type k I) (hr : FOp W (off + k.sz) fs kr J) :
    FOp W off (f :: fs) (Kd.pair k kr) (fun B x => I B x.1 ∧ J B x.2) := by
  refine ⟨?_, fun B B' x hB hx => ⟨h.mono _ _ _ hB hx.1, hr.mono _ _ _ hB hx.2⟩⟩
  intro H enc base spare held fuel cs B hl hf
  have hl' : cs.length = off + (k.sz + kr.sz) := hl
  obtain ⟨y, hy, hB⟩ := hf f (by simp)
  obtain ⟨p, hK, hI⟩ := h.read H enc base spare held fuel _ _ hy
  obtain ⟨q, hQ, hJ⟩ := hr.read H enc base spare held fuel cs B (by omega) (fun g hg => hf g (by simp [hg]))
  rw [ho, hc] at hK
  refine ⟨(p, q), ⟨_, _, ?_, hK, hQ⟩, h.mono _ _ _ hB hI, hJ⟩
  rw [← List.drop_drop, List.take_append_drop]
theorem Op.struct {α : Type} {W : World} {t : TypeId} {fs : List Field} {k : Kd α} {I : Nat → α → Prop} (ht : Tryz.prog.underlying t = some (.struct fs.toArray)) (hC : Tryz.prog.cellsOf t = k.sz) (h : FOp W 0 fs k I) : Op W t k I := by
  refine ⟨?_, h.mono⟩
  intro H enc base spare held fuel cs y hf
  obtain ⟨xs, n, _, hy, hl, hlen, hx⟩ := DataW.trod_struct ht hf
  have hs : fs.toArray.size = fs.length := by simp
  obtain ⟨p, hK, hI⟩ := h.read H enc base spare held n cs (Rows.uptoBulk y.1) (by omega) (by
    intro f hf
    obtain ⟨i, hi, rfl⟩ := List.getElem_of_mem hf
    have := hx i fs[i] (by simp [hi])
    rw [List.getElem?_eq_getElem (by omega)] at this
    refine ⟨_, (by simpa using this), ?_⟩
    rw [hy]
    simp only [Rows.uptoBulk]
    have := bulk_part (d := (xs[i]'(by omega)).1) (l := xs.map (·.1)) (List.mem_map.2 ⟨_, List.getElem_mem _, rfl⟩)
    omega)
  exact ⟨p, (by simpa using hK), hI⟩
theorem Op.imp {α : Type} {W : World} {t : TypeId} {k : Kd α} {I J : Nat → α → Prop} (h : Op W t k I) (hi : ∀ B p, I B p → J B p) (hm : ∀ B B' p, B ≤ B' → J B p → J B' p) : Op W t k J :=
  ⟨fun H enc base spare held fuel cs y hf => by obtain ⟨p, hK, hI⟩ := h.read H enc base spare held fuel cs y hf; exact ⟨p, hK, hi _ _ hI⟩, hm⟩
theorem wf_i64 {x : Int} (h : Wf .i64 x) : -9223372036854775808 ≤ x ∧ x ≤ 9223372036854775807 := wf_range h
set_option maxRecDepth 100000 in
theorem wf_u64 {x : Int} (h : Wf .u64 x) : 0 ≤ x ∧ x ≤ 18446744073709551615 := by
  unfold Wf at h
  simp [Lit.wf, IntKind.min, IntKind.max, IntKind.signed, IntKind.bits] at h
  omega
theorem wf_u8 {x : Int} (h : Wf .u8 x) : 0 ≤ x ∧ x ≤ 255 := by
  unfold Wf at h
  simp [Lit.wf, IntKind.min, IntKind.max, IntKind.signed, IntKind.bits] at h
  omega
set_option maxRecDepth 100000 in
/-- an argument of slice type -/
theorem open_sl {α : Type} {H : Type} {enc : TypeId × Value → H} {W : World} {base : Nat} {t e : TypeId} {k : Kd α} {I : Nat → List α → Prop} {v : Value} {d : DataW H} {ps : List MemPlace} (hu : Tryz.prog.underlying t = some (.slice e)) (hO : Op W t (Kd.slice e k) I) (hval : Value.okWide Tryz.prog W .any base t v) (h : DataW.Trod enc Tryz.prog W 0 (fun _ => true) true t v d ps) :
    ∃ A c l, v = .slice A l.length c ∧ k.C W A l.length l ∧ I (Rows.uptoBulk d) l ∧ l.length ≤ c := by
  obtain ⟨A, n, c, rfl⟩ := okWide_slice hu hval
  obtain ⟨fuel, hf⟩ := h
  obtain ⟨l, ⟨A', c', hcs, hl, hC⟩, hI⟩ := hO.read H enc 0 _ true fuel _ _ hf
  simp [Value.cells] at hcs
  obtain ⟨rfl, rfl, rfl⟩ := hcs
  exact ⟨A, c, l, rfl, hC, hI, hl⟩
set_option maxRecDepth 100000 in
/-- an argument of struct type -/
theorem open_st {α : Type} {H : Type} {enc : TypeId × Value → H} {W : World} {base : Nat} {t : TypeId} {fs : Array Field} {k : Kd α} {I : Nat → α → Prop} {v : Value} {d : DataW H} {ps : List MemPlace} (hu : Tryz.prog.underlying t = some (.struct fs)) (hO : Op W t k I) (hval : Value.okWide Tryz.prog W .any base t v) (h : DataW.Trod enc Tryz.prog W 0 (fun _ => true) true t v d ps) :
    ∃ x cs, v = .agg (List.toArray cs) ∧ k.K W x cs ∧ I (Rows.uptoBulk d) x := by
  obtain ⟨cs, rfl, hsz⟩ := okWide_struct hu hval
  obtain ⟨fuel, hf⟩ := h
  obtain ⟨x, hK, hI⟩ := hO.read H enc 0 _ true fuel _ _ hf
  exact ⟨x, cs.toList, rfl, (by simpa [Value.cells] using hK), hI⟩
end Go.Proofs.YtpnklpjjbpheeaaGreatDoor
