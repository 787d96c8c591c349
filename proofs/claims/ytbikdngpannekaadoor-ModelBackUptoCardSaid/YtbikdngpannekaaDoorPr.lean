/-
  A store into one element's row of a row whose tags differ; conditions: none.
-/
import Derived.Test.YtbikdngpannekaaDoorPq
namespace Go.Proofs.YtbikdngpannekaaDoor
open Go.RowKit Go.Proofs.YtbikdngpannekaaDoorW.PrintWords

def vSeg (v : Sl.Vl) : List Value := [.int .u8 v.1, .int .u64 v.2.1, .int .i64 v.2.2.1, .int .i64 v.2.2.2]
theorem vSeg_M (w : World) (b : Nat) (ok : Nat → Prop) (v : Sl.Vl) : kVl.M w b ok v (vSeg v) := ⟨[_], [_, _, _], rfl, rfl, ⟨[_], [_, _], rfl, rfl, ⟨[_], [_], rfl, rfl, rfl⟩⟩⟩
/-- element d's row of slots -/
theorem tag_at {w : World} {e b g n cap : Nat} {ok : Nat → Prop} {xs : List (Af × Nat)} (h : (tagK kAf).R e w b ok (.slice (some ⟨g, 0, none⟩) n cap) xs) {d : Nat} {f : Int} {sl : List Sl.Vl} {t : Nat} (hd : xs[d]? = some ((f, sl), t)) (hp : 0 < sl.length) :
    ∃ c, w.cell? ⟨g, d * 2 + 1, none⟩ = some (.slice (some ⟨t, 0, none⟩) sl.length c) ∧ t ≠ g ∧ ok t ∧ kVl.R 27 w b (fun k => (ok k ∧ k ≠ g) ∧ k = t) (.slice (some ⟨t, 0, none⟩) sl.length c) sl := by
  have hdl : d < xs.length := (List.getElem?_eq_some_iff.1 hd).1
  obtain ⟨hn, _, _⟩ := Kd.R_reads' h
  obtain ⟨cs, hcl, hM, hcc, hcz⟩ := Kd.R_elem h ((0, []), 0) (d : Int) (by omega) (by omega)
  rw [Int.toNat_natCast, List.getD_eq_getElem?_getD, hd] at hM
  rw [Int.toNat_natCast] at hcc
  obtain ⟨c0, c1, rfl, rfl, v3, rfl, h3⟩ := hM
  have h1 := hcc 1 v3 rfl
  obtain ⟨g3, cap3, rfl, _⟩ := Kd.R_form h3 hp
  have hg : (ok g3 ∧ g3 ≠ g) ∧ g3 = t := h3.1 g3 (by simp [Value.ownBlock])
  obtain ⟨⟨ho, hne⟩, rfl⟩ := hg
  exact ⟨cap3, h1, hne, ho, h3⟩
theorem tag_store {w : World} {e b g n cap : Nat} {ok : Nat → Prop} {xs : List (Af × Nat)} (h : (tagK kAf).R e w b ok (.slice (some ⟨g, 0, none⟩) n cap) xs) (hnd : (xs.map (·.2)).Nodup) {d : Nat} {f : Int} {sl : List Sl.Vl} {t : Nat} (hd : xs[d]? = some ((f, sl), t)) {s : Nat} (hs : s < sl.length) (v : Sl.Vl) :
    (tagK kAf).R e (w.setCells t (s * 4) (vSeg v)) b ok (.slice (some ⟨g, 0, none⟩) n cap) (xs.set d ((f, sl.set s v), t)) := by
  obtain ⟨c3, h1, hne, hok, h3⟩ := tag_at h hd (by omega)
  have hdl : d < xs.length := (List.getElem?_eq_some_iff.1 hd).1
  obtain ⟨cs, hcl, _, hcc, _⟩ := Kd.R_elem h3 Sl.dVl (s : Int) (by omega) (by omega)
  have hsg := Kd.R_seg (c := cs) (seg := vSeg v) (j := 0) (okp := fun _ => False) (x' := v) h3 (s : Int) (by omega) (by omega) hcl hcc (Nat.le_refl 4) (by
    have hl4 : cs.length = 4 := hcl
    rw [List.take_zero, List.nil_append, List.drop_eq_nil_of_le (by rw [hl4]; exact Nat.le_refl 4), List.append_nil]
    exact vSeg_M _ _ _ _) (fun _ h => h.elim)
  rw [Int.toNat_natCast, show kVl.sz = 4 from rfl, Nat.add_zero] at hsg
  obtain ⟨hR3, hgr⟩ := hsg
  obtain ⟨h0, inner, ho, hr⟩ := h
  have hfar : ∀ k, k ≠ t → (w.setCells t (s * 4) (vSeg v)).heap[k]? = w.heap[k]? := fun k hk => setCells_far _ _ k hk
  refine ⟨h0, inner, ?_, ?_⟩
  · rw [List.length_set]
    exact own_move ho (fun k hk => hfar k (by
      have : g = k := by simpa [Value.ownBlock] using hk
      omega))
  · refine ⟨by rw [List.length_set]; exact hr.1, fun j p hj => ?_⟩
    rw [List.getElem?_set] at hj
    by_cases hjd : d = j
    · subst hjd
      rw [if_pos rfl, if_pos hdl] at hj
      obtain rfl := (Option.some.inj hj).symm
      obtain ⟨c0, c1, hcs, rfl, v3, rfl, h4⟩ := hr.2 d _ hd
      have hv3 : v3 = .slice (some ⟨t, 0, none⟩) sl.length c3 := by
        have hx := ho.cells (g := g) (by simp [Value.ownBlock]) (d * 2 + 1) v3 (by
          have hy : ((inner.drop (d * 2)).take 2)[1]? = some v3 := by rw [show (tagK kAf).sz = 2 from rfl] at hcs; rw [hcs]; rfl
          rw [List.getElem?_take, if_pos (by decide), List.getElem?_drop] at hy
          exact hy)
        rw [add_plain] at hx
        rw [hx] at h1
        exact Option.some.inj h1
      subst hv3
      rw [hcs]
      refine ⟨_, _, rfl, rfl, _, rfl, ?_⟩
      have hl : (sl.set s v).length = sl.length := List.length_set
      exact Kd.R_mono hR3 (fun k hk => ⟨⟨hk.1.1, fun e => hk.1.2 (by simpa [Value.ownBlock] using e)⟩, hk.2⟩)
    · rw [if_neg hjd] at hj
      have hM := hr.2 j p hj
      have hjt : p.2 ≠ t := by
        intro e
        have hjl : j < xs.length := (List.getElem?_eq_some_iff.1 hj).1
        have h5 : (xs.map (·.2))[j]? = some t := by rw [List.getElem?_map, hj]; exact congrArg some e
        have h6 : (xs.map (·.2))[d]? = some t := by rw [List.getElem?_map, hd]; rfl
        first
          | exact hjd (List.getElem?_inj (by rw [List.length_map]; exact hdl) hnd (h6.trans h5.symm))
          | exact hjd ((List.getElem?_inj (by rw [List.length_map]; exact hdl) hnd).1 (h6.trans h5.symm))
      exact kAf.M_move (fun k hk => hfar k (by rw [hk.2]; exact hjt)) hM
end Go.Proofs.YtbikdngpannekaaDoor
