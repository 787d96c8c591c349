/-
  The walk of the reference's Line of a step that may be; conditions: its numbers may be written.
-/
import Derived.Test.YtpnklpjjbpheeaaDoorZk
import Derived.Lib.ConvBytes
import Derived.Laws.BytesArg
import Derived.Laws.Rows
import Derived.Deep.RegionHeld3
namespace Go.Proofs.YtpnklpjjbpheeaaDoor
open Go.RowKit Go.Proofs.YtpnklpjjbpheeaaDoorW.PrintWords
open Go.Proofs.Fl Go.Proofs.YtpnklpjjbpheeaaDoor.Flt

theorem bapp (a b c : ByteArray) : a ++ b ++ c = a ++ (b ++ c) := by
  apply ByteArray.ext
  simp [ByteArray.data_append]
theorem bnil (a : ByteArray) : a ++ (⟨#[]⟩ : ByteArray) = a := by
  apply ByteArray.ext
  simp [ByteArray.data_append]
theorem word_small : ∀ j, j < 13 → (fW j).size ≤ 6 := by decide +kernel
set_option maxRecDepth 100000 in
set_option maxHeartbeats 8000000 in
theorem rline_any (k : Int) (p g f d s : Nat) (v0 : Int) (v1 v2 v3 o : Nat) (A : Option Addr) (c : Nat) (l : List Nat) (w : World) (hk : 1 ≤ k ∧ k ≤ 13) (hi : LnIn p g f d s v1 v2 v3 o l) (hv : k = 5 → v0 = 0 ∨ v0 = 1 ∨ v0 = 2) (h9 : k = 9 → l.length = 3) (hr : ReadsInt w .i64 A l.length (l.map (fun n : Nat => (n : Int)))) :
    Calls Tryd.prog 19 #[.agg (stCells (stN k p g f d s v0 v1 v2 v3 o) A l.length c)] w fun e w' => e = .returned (.string (joinW (lineW k p g f d s v0 v1 v2 v3 o l))) ∧ Below w.heap.size w w' := by
  unfold stCells stN
  dsimp only
  obtain ⟨ip, ig, if_, id_, is_, i1, i2, i3, io, _, ia⟩ := hi
  obtain ⟨Z, hZ⟩ : ∃ Z, Z = joinW (lineW k p g f d s v0 v1 v2 v3 o l) := ⟨_, rfl⟩
  rw [← hZ]
  have HZ := Lk.mk hZ
  obtain ⟨j, hj⟩ : ∃ j : Nat, k = (j : Int) + 1 := ⟨(k - 1).toNat, by omega⟩
  have hjl : (j : Int) < 13 := by omega
  have hjw : IntKind.u8.wrap (k - 1) = (j : Int) := (IntWalk.u8_in _ (by omega)).trans (by omega)
  have hwl := Lk.mk (word_at j (by omega))
  have zU := word_small j (by omega)
  obtain ⟨U, hU⟩ : ∃ U, U = fW j := ⟨_, rfl⟩
  rw [← hU] at hwl zU
  have HU := Lk.mk hU
  have HNp := Lk.mk (fun W => rnum_sp p W ip)
  have HNg := Lk.mk (fun W => rnum_sp g W ig)
  have HNf := Lk.mk (fun W => rnum_sp f W if_)
  have HNd := Lk.mk (fun W => rnum_sp d W id_)
  have HNs := Lk.mk (fun W => rnum_sp s W is_)
  have HNo := Lk.mk (fun W => rnum_sp o W (by omega))
  have HNA := Lk.mk (fun y (hy : y ∈ l) W => rnum_sp y W (ia y hy))
  have HVA := Lk.mk (fun h W => rValue_any v0 v1 v2 v3 W (hv h) i1 i2 i3)
  have HTX := Lk.mk (fun W => rtext_any v1 W i1)
  rw [show strOfNums (Hx.low 16 v1) = tx v1 from rfl] at HTX
  have zp := sp_size p
  have zg := sp_size g
  have zf := sp_size f
  have zd := sp_size d
  have zs := sp_size s
  have zo := sp_size o
  have zV := vT_size v0 v1 v2 v3 i2 i3
  have zT := tx_size v1
  have HZA := Lk.mk (show ∀ y ∈ l, (sp y).size ≤ 1000002 from fun y hy => Nat.le_trans (sp_size y) (by have := ia y hy; omega))
  obtain ⟨Np, hNp⟩ : ∃ N, N = sp p := ⟨_, rfl⟩
  obtain ⟨Ng, hNg⟩ : ∃ N, N = sp g := ⟨_, rfl⟩
  obtain ⟨Nf, hNf⟩ : ∃ N, N = sp f := ⟨_, rfl⟩
  obtain ⟨Nd, hNd⟩ : ∃ N, N = sp d := ⟨_, rfl⟩
  obtain ⟨Ns, hNs⟩ : ∃ N, N = sp s := ⟨_, rfl⟩
  obtain ⟨No, hNo⟩ : ∃ N, N = sp o := ⟨_, rfl⟩
  obtain ⟨V, hV⟩ : ∃ N, N = vT v0 v1 v2 v3 := ⟨_, rfl⟩
  obtain ⟨T, hT⟩ : ∃ N, N = tx v1 := ⟨_, rfl⟩
  rw [← hNp] at HNp zp
  rw [← hNg] at HNg zg
  rw [← hNf] at HNf zf
  rw [← hNd] at HNd zd
  rw [← hNs] at HNs zs
  rw [← hNo] at HNo zo
  rw [← hV] at HVA zV
  rw [← hT] at HTX zT
  have HN := Lk.mk (show Np = sp p ∧ Ng = sp g ∧ Nf = sp f ∧ Nd = sp d ∧ Ns = sp s ∧ No = sp o ∧ V = vT v0 v1 v2 v3 ∧ T = tx v1 from ⟨hNp, hNg, hNf, hNd, hNs, hNo, hV, hT⟩)
  have HIO := Lk.mk (show IntKind.i64.wrap (o : Int) = (o : Int) from IntWalk.i64_in _ (by omega))
  have HK := Lk.mk (show k = (j : Int) + 1 ∧ 1 ≤ k ∧ k ≤ 13 from ⟨hj, hk⟩)
  have H9 := Lk.mk h9
  have HR := Lk.mk hr
  have HZS := Lk.mk (show U.size ≤ 6 ∧ Np.size ≤ 1000002 ∧ Ng.size ≤ 1000002 ∧ Nf.size ≤ 1000002 ∧ Nd.size ≤ 1000002 ∧ Ns.size ≤ 1000002 ∧ No.size ≤ 1000002 ∧ V.size ≤ 3000000 ∧ T.size = 16 by omega)
  have hc0 : ¬ 9223372036854775807 < U.size + Np.size := by omega
  clear hNp hNg hNf hNd hNs hNo hV hT hU hZ hj hk h9 hr hv ip ig if_ id_ is_ i1 i2 i3 io ia zU zp zg zf zd zs zo zV zT
  have HB := Lk.mk (below_alloc (Below.refl w.heap.size w) (.cells #[.int .u8 k, .int .i64 (p : Int), .int .i64 (g : Int), .int .i64 (f : Int), .int .i64 (d : Int), .int .i64 (s : Int), .int .u8 v0, .int .u64 (v1 : Int), .int .i64 (v2 : Int), .int .i64 (v3 : Int), .int .u8 (o : Int), .slice A l.length c] 46))
  have HX := Lk.mk (blk_new w (.cells #[.int .u8 k, .int .i64 (p : Int), .int .i64 (g : Int), .int .i64 (f : Int), .int .i64 (d : Int), .int .i64 (s : Int), .int .u8 v0, .int .u64 (v1 : Int), .int .i64 (v2 : Int), .int .i64 (v3 : Int), .int .u8 (o : Int), .slice A l.length c] 46))
  obtain ⟨⟨b0, b1, b2, b3, b4, b5⟩, b6, b7, b8, b9, b10, b11⟩ := line_cells HX.out
  go_enter Tryd.func19, Tryd.ntmps19
  go_wp2
  clear b0 b1 b2 b3 b4 b5 b6 b7 b8 b9 b10 b11
  have HBd := Lk.mk (below_drew1 HB.out)
  have HXd := Lk.mk (blk_drew HX.out)
  generalize w.alloc (.cells #[.int .u8 k, .int .i64 (p : Int), .int .i64 (g : Int), .int .i64 (f : Int), .int .i64 (d : Int), .int .i64 (s : Int), .int .u8 v0, .int .u64 (v1 : Int), .int .i64 (v2 : Int), .int .i64 (v3 : Int), .int .u8 (o : Int), .slice A l.length c] 46) = wa at *
  obtain ⟨wd, hwd⟩ : ∃ wd, wd = wa.drew := ⟨_, rfl⟩
  refine held_begin (fun W => Below w.heap.size w W ∧ W.heap[w.heap.size]? = some (.cells #[.int .u8 k, .int .i64 (p : Int), .int .i64 (g : Int), .int .i64 (f : Int), .int .i64 (d : Int), .int .i64 (s : Int), .int .u8 v0, .int .u64 (v1 : Int), .int .i64 (v2 : Int), .int .i64 (v3 : Int), .int .u8 (o : Int), .slice A l.length c] 46 (0, 0))) (by kernel_rfl) ?_
  rw [← hwd] at HBd HXd ⊢
  have hS0 := And.intro HBd.out HXd.out
  (refine held_take (i := 1) (v := ?_) rfl (by kernel_rfl) (by kernel_rfl) (by kernel_rfl) (fun _ _ _ _ _ h => h) (by rfl) ?_ hS0 ?_); rotate_left; (focus (intro w' hS; (try dsimp only at hS); skip; go_simp; (with_reducible rfl))); (try simp only [Act.put, List.setIfInBounds_toArray, List.set_cons_zero, List.set_cons_succ]); (refine held_take (i := 2) (v := ?_) rfl (by kernel_rfl) (by kernel_rfl) (by kernel_rfl) (fun _ _ _ _ _ h => h) (by rfl) ?_ hS0 ?_); rotate_left; (focus (intro w' hS; (try dsimp only at hS); skip; go_simp; (with_reducible rfl))); (try simp only [Act.put, List.setIfInBounds_toArray, List.set_cons_zero, List.set_cons_succ])
  (refine held_take (i := 5) (v := ?_) rfl (by kernel_rfl) (by kernel_rfl) (by kernel_rfl) (fun _ _ _ _ _ h => h) (by rfl) ?_ hS0 ?_); rotate_left; (focus (intro w' hS; (try dsimp only at hS); obtain ⟨⟨b0, b1, b2, b3, b4, b5⟩, b6, b7, b8, b9, b10, b11⟩ := line_cells hS.2; go_simp; (with_reducible rfl))); (try simp only [Act.put, List.setIfInBounds_toArray, List.set_cons_zero, List.set_cons_succ]); (refine held_take (i := 6) (v := ?_) rfl (by kernel_rfl) (by kernel_rfl) (by kernel_rfl) (fun _ _ _ _ _ h => h) (by rfl) ?_ hS0 ?_); rotate_left; (focus (intro w' hS; (try dsimp only at hS); obtain ⟨⟨b0, b1, b2, b3, b4, b5⟩, b6, b7, b8, b9, b10, b11⟩ := line_cells hS.2; go_simp; (with_reducible rfl))); (try simp only [Act.put, List.setIfInBounds_toArray, List.set_cons_zero, List.set_cons_succ])
  (refine held_call (i := 0) (f := ?_) (args := ?_) rfl (by kernel_rfl) (by rfl) ?_ ?_); rotate_left 2; (focus (skip; go_simp; (apply And.intro <;> with_reducible rfl))); (refine (rWords_any wd).mono ?_; rintro e w1 ⟨rfl, hw1⟩; have hS1 := And.intro (show Below w.heap.size w w1 by rw [hw1]; exact below_alloc HBd.out _) (show w1.heap[w.heap.size]? = some (.cells #[.int .u8 k, .int .i64 (p : Int), .int .i64 (g : Int), .int .i64 (f : Int), .int .i64 (d : Int), .int .i64 (s : Int), .int .u8 v0, .int .u64 (v1 : Int), .int .i64 (v2 : Int), .int .i64 (v3 : Int), .int .u8 (o : Int), .slice A l.length c] 46 (0, 0)) by rw [hw1]; exact blk_alloc HXd.out _); have hF1 : w1.heap[wd.heap.size]? = some (.cells wordCells 9 (0, 0)) := (by rw [hw1]; exact blk_new wd _); clear hw1; refine ⟨_, rfl, hS1, ?_⟩)
  (try simp only [Act.put, List.setIfInBounds_toArray, List.set_cons_zero, List.set_cons_succ])
  generalize wd.heap.size = n0 at *
  refine held_mono (S' := fun W => (Below w.heap.size w W ∧ W.heap[w.heap.size]? = some (.cells #[.int .u8 k, .int .i64 (p : Int), .int .i64 (g : Int), .int .i64 (f : Int), .int .i64 (d : Int), .int .i64 (s : Int), .int .u8 v0, .int .u64 (v1 : Int), .int .i64 (v2 : Int), .int .i64 (v3 : Int), .int .u8 (o : Int), .slice A l.length c] 46 (0, 0))) ∧ W.heap[n0]? = some (.cells wordCells 9 (0, 0))) (fun W h => h.1) _ _ _ _ ?_
  have hS2 := And.intro hS1 hF1
  (refine held_take (i := 3) (v := ?_) rfl (by kernel_rfl) (by kernel_rfl) (by kernel_rfl) (fun _ _ _ _ _ h => h) (by rfl) ?_ hS2 ?_); rotate_left; (focus (intro w' hS; (try dsimp only at hS); have q : w'.cell? ⟨n0, j, none⟩ = some (.string U) := (blk_cell hS.2 j).trans hwl.out; go_simp; (with_reducible rfl))); (try simp only [Act.put, List.setIfInBounds_toArray, List.set_cons_zero, List.set_cons_succ]); (refine held_take (i := 4) (v := ?_) rfl (by kernel_rfl) (by kernel_rfl) (by kernel_rfl) (fun _ _ _ _ _ h => h) (by rfl) ?_ hS2 ?_); rotate_left; (focus (intro w' hS; (try dsimp only at hS); have q : w'.cell? ⟨n0, j, none⟩ = some (.string U) := (blk_cell hS.2 j).trans hwl.out; go_simp; (with_reducible rfl))); (try simp only [Act.put, List.setIfInBounds_toArray, List.set_cons_zero, List.set_cons_succ])
  (refine held_call (i := 7) (f := ?_) (args := ?_) rfl (by kernel_rfl) (by rfl) ?_ ?_); rotate_left 2; (focus (skip; go_simp; (apply And.intro <;> with_reducible rfl))); (refine (HNp.out w1).mono ?_; rintro e w2 ⟨rfl, hb⟩; have hS3 := And.intro (And.intro (below_then hS1.1 hS1.1.size hb) (blk_below hS1.2 hb)) (blk_below hF1 hb); clear hb; refine ⟨_, rfl, hS3, ?_⟩)
  (try simp only [Act.put, List.setIfInBounds_toArray, List.set_cons_zero, List.set_cons_succ])
  (refine held_take (i := 8) (v := ?_) rfl (by kernel_rfl) (by kernel_rfl) (by kernel_rfl) (fun _ _ _ _ _ h => h) (by rfl) ?_ hS3 ?_); rotate_left; (focus (intro w' hS; (try dsimp only at hS); skip; go_simp; (with_reducible rfl))); (try simp only [Act.put, List.setIfInBounds_toArray, List.set_cons_zero, List.set_cons_succ]); (refine held_take (i := 9) (v := ?_) rfl (by kernel_rfl) (by kernel_rfl) (by kernel_rfl) (fun _ _ _ _ _ h => h) (by rfl) ?_ hS3 ?_); rotate_left; (focus (intro w' hS; (try dsimp only at hS); skip; go_simp; (with_reducible rfl))); (try simp only [Act.put, List.setIfInBounds_toArray, List.set_cons_zero, List.set_cons_succ])
  refine held_done (by kernel_rfl) ?_ _
  have HB := Lk.mk hS3.1.1
  have HX := Lk.mk hS3.1.2
  obtain ⟨⟨b0, b1, b2, b3, b4, b5⟩, b6, b7, b8, b9, b10, b11⟩ := line_cells HX.out
  clear hS0 hS1 hS2 hS3 hF1 HBd HXd hwd
  have hks : k = 1 ∨ k = 2 ∨ k = 3 ∨ k = 4 ∨ k = 5 ∨ k = 6 ∨ k = 7 ∨ k = 8 ∨ k = 9 ∨ k = 10 ∨ k = 11 ∨ k = 12 ∨ k = 13 := by have := HK.out; omega

  rcases hks with hks | hks
  · subst hks
    have hj : j = 0 := by have := HK.out; omega
    subst hj
    have HZ2 := Lk.mk (show Z = U ++ Np ++ Nf by
      obtain ⟨e1, e2, e3, e4, e5, e6, e7, e8⟩ := HN.out
      rw [HZ.out, HU.out, e1, e3]
      rw [show lineW 1 p g f d s v0 v1 v2 v3 o l = fW 0 :: ([dec p, dec f]) from rfl, joinW_cons]
      simp only [joinT, sp, bapp, bnil])
    obtain ⟨y0, y1, y2, y3, y4, y5, y6, y7, y8⟩ := HZS.out
    have hc1 : ¬ 9223372036854775807 < U.size + Np.size + Nf.size := by omega
    clear y0 y1 y2 y3 y4 y5 y6 y7 y8
    have HI := Lk.mk (show ∀ W : World, Calls Tryd.prog 31 #[.int .u8 1, .slice (some ⟨W.heap.size, 0, none⟩) 4 4] (W.alloc (.cells #[.int .u8 1, .int .u8 11, .int .u8 12, .int .u8 13] 5)) fun e w' => e = .returned (.bool true) ∧ w' = W.alloc (.cells #[.int .u8 1, .int .u8 11, .int .u8 12, .int .u8 13] 5) from fun W => rin_lit 1 [1, 11, 12, 13] true W _ rfl (by decide) (by decide))
    go_wp2_with (first
      | (go_at_call 31; (with_reducible refine (HI.out _).mono ?_); rintro e w3 ⟨rfl, hw⟩; have HB := Lk.mk (show Below w.heap.size w w3 by rw [hw]; exact below_alloc HB.out _); have HX := Lk.mk (show w3.heap[w.heap.size]? = some (.cells #[.int .u8 1, .int .i64 (p : Int), .int .i64 (g : Int), .int .i64 (f : Int), .int .i64 (d : Int), .int .i64 (s : Int), .int .u8 v0, .int .u64 (v1 : Int), .int .i64 (v2 : Int), .int .i64 (v3 : Int), .int .u8 (o : Int), .slice A l.length c] 46 (0, 0)) by rw [hw]; exact blk_alloc HX.out _); obtain ⟨⟨b0, b1, b2, b3, b4, b5⟩, b6, b7, b8, b9, b10, b11⟩ := line_cells HX.out; clear hw)
      | (go_at_call 35; (with_reducible refine (HNf.out _).mono ?_); rintro e w3 ⟨rfl, hb⟩; have HB := Lk.mk (below_then HB.out HB.out.size hb); have HX := Lk.mk (show w3.heap[w.heap.size]? = some (.cells #[.int .u8 1, .int .i64 (p : Int), .int .i64 (g : Int), .int .i64 (f : Int), .int .i64 (d : Int), .int .i64 (s : Int), .int .u8 v0, .int .u64 (v1 : Int), .int .i64 (v2 : Int), .int .i64 (v3 : Int), .int .u8 (o : Int), .slice A l.length c] 46 (0, 0)) from blk_below HX.out hb); obtain ⟨⟨b0, b1, b2, b3, b4, b5⟩, b6, b7, b8, b9, b10, b11⟩ := line_cells HX.out; clear hb))
    go_ret
    exact ⟨by rw [HZ2.out]; rfl, HB.out⟩
  rcases hks with hks | hks
  · subst hks
    have hj : j = 1 := by have := HK.out; omega
    subst hj
    have HZ2 := Lk.mk (show Z = U ++ Np ++ Ng by
      obtain ⟨e1, e2, e3, e4, e5, e6, e7, e8⟩ := HN.out
      rw [HZ.out, HU.out, e1, e2]
      rw [show lineW 2 p g f d s v0 v1 v2 v3 o l = fW 1 :: ([dec p, dec g]) from rfl, joinW_cons]
      simp only [joinT, sp, bapp, bnil])
    obtain ⟨y0, y1, y2, y3, y4, y5, y6, y7, y8⟩ := HZS.out
    have hc1 : ¬ 9223372036854775807 < U.size + Np.size + Ng.size := by omega
    clear y0 y1 y2 y3 y4 y5 y6 y7 y8
    have HI := Lk.mk (show ∀ W : World, Calls Tryd.prog 31 #[.int .u8 2, .slice (some ⟨W.heap.size, 0, none⟩) 4 4] (W.alloc (.cells #[.int .u8 1, .int .u8 11, .int .u8 12, .int .u8 13] 5)) fun e w' => e = .returned (.bool false) ∧ w' = W.alloc (.cells #[.int .u8 1, .int .u8 11, .int .u8 12, .int .u8 13] 5) from fun W => rin_lit 2 [1, 11, 12, 13] false W _ rfl (by decide) (by decide))
    go_wp2_with (first
      | (go_at_call 31; (with_reducible refine (HI.out _).mono ?_); rintro e w3 ⟨rfl, hw⟩; have HB := Lk.mk (show Below w.heap.size w w3 by rw [hw]; exact below_alloc HB.out _); have HX := Lk.mk (show w3.heap[w.heap.size]? = some (.cells #[.int .u8 2, .int .i64 (p : Int), .int .i64 (g : Int), .int .i64 (f : Int), .int .i64 (d : Int), .int .i64 (s : Int), .int .u8 v0, .int .u64 (v1 : Int), .int .i64 (v2 : Int), .int .i64 (v3 : Int), .int .u8 (o : Int), .slice A l.length c] 46 (0, 0)) by rw [hw]; exact blk_alloc HX.out _); obtain ⟨⟨b0, b1, b2, b3, b4, b5⟩, b6, b7, b8, b9, b10, b11⟩ := line_cells HX.out; clear hw)
      | (go_at_call 35; (with_reducible refine (HNg.out _).mono ?_); rintro e w3 ⟨rfl, hb⟩; have HB := Lk.mk (below_then HB.out HB.out.size hb); have HX := Lk.mk (show w3.heap[w.heap.size]? = some (.cells #[.int .u8 2, .int .i64 (p : Int), .int .i64 (g : Int), .int .i64 (f : Int), .int .i64 (d : Int), .int .i64 (s : Int), .int .u8 v0, .int .u64 (v1 : Int), .int .i64 (v2 : Int), .int .i64 (v3 : Int), .int .u8 (o : Int), .slice A l.length c] 46 (0, 0)) from blk_below HX.out hb); obtain ⟨⟨b0, b1, b2, b3, b4, b5⟩, b6, b7, b8, b9, b10, b11⟩ := line_cells HX.out; clear hb))
    go_ret
    exact ⟨by rw [HZ2.out]; rfl, HB.out⟩
  rcases hks with hks | hks
  · subst hks
    have hj : j = 2 := by have := HK.out; omega
    subst hj
    have HZ2 := Lk.mk (show Z = U ++ Np ++ Ng ++ Nf by
      obtain ⟨e1, e2, e3, e4, e5, e6, e7, e8⟩ := HN.out
      rw [HZ.out, HU.out, e1, e2, e3]
      rw [show lineW 3 p g f d s v0 v1 v2 v3 o l = fW 2 :: ([dec p, dec g, dec f]) from rfl, joinW_cons]
      simp only [joinT, sp, bapp, bnil])
    obtain ⟨y0, y1, y2, y3, y4, y5, y6, y7, y8⟩ := HZS.out
    have hc1 : ¬ 9223372036854775807 < U.size + Np.size + Ng.size := by omega
    have hc2 : ¬ 9223372036854775807 < U.size + Np.size + Ng.size + Nf.size := by omega
    clear y0 y1 y2 y3 y4 y5 y6 y7 y8
    have HI := Lk.mk (show ∀ W : World, Calls Tryd.prog 31 #[.int .u8 3, .slice (some ⟨W.heap.size, 0, none⟩) 4 4] (W.alloc (.cells #[.int .u8 1, .int .u8 11, .int .u8 12, .int .u8 13] 5)) fun e w' => e = .returned (.bool false) ∧ w' = W.alloc (.cells #[.int .u8 1, .int .u8 11, .int .u8 12, .int .u8 13] 5) from fun W => rin_lit 3 [1, 11, 12, 13] false W _ rfl (by decide) (by decide))
    go_wp2_with (first
      | (go_at_call 31; (with_reducible refine (HI.out _).mono ?_); rintro e w3 ⟨rfl, hw⟩; have HB := Lk.mk (show Below w.heap.size w w3 by rw [hw]; exact below_alloc HB.out _); have HX := Lk.mk (show w3.heap[w.heap.size]? = some (.cells #[.int .u8 3, .int .i64 (p : Int), .int .i64 (g : Int), .int .i64 (f : Int), .int .i64 (d : Int), .int .i64 (s : Int), .int .u8 v0, .int .u64 (v1 : Int), .int .i64 (v2 : Int), .int .i64 (v3 : Int), .int .u8 (o : Int), .slice A l.length c] 46 (0, 0)) by rw [hw]; exact blk_alloc HX.out _); obtain ⟨⟨b0, b1, b2, b3, b4, b5⟩, b6, b7, b8, b9, b10, b11⟩ := line_cells HX.out; clear hw)
      | (go_at_call 35; (with_reducible refine (HNg.out _).mono ?_); rintro e w3 ⟨rfl, hb⟩; have HB := Lk.mk (below_then HB.out HB.out.size hb); have HX := Lk.mk (show w3.heap[w.heap.size]? = some (.cells #[.int .u8 3, .int .i64 (p : Int), .int .i64 (g : Int), .int .i64 (f : Int), .int .i64 (d : Int), .int .i64 (s : Int), .int .u8 v0, .int .u64 (v1 : Int), .int .i64 (v2 : Int), .int .i64 (v3 : Int), .int .u8 (o : Int), .slice A l.length c] 46 (0, 0)) from blk_below HX.out hb); obtain ⟨⟨b0, b1, b2, b3, b4, b5⟩, b6, b7, b8, b9, b10, b11⟩ := line_cells HX.out; clear hb)
      | (go_at_call 35; (with_reducible refine (HNf.out _).mono ?_); rintro e w3 ⟨rfl, hb⟩; have HB := Lk.mk (below_then HB.out HB.out.size hb); have HX := Lk.mk (show w3.heap[w.heap.size]? = some (.cells #[.int .u8 3, .int .i64 (p : Int), .int .i64 (g : Int), .int .i64 (f : Int), .int .i64 (d : Int), .int .i64 (s : Int), .int .u8 v0, .int .u64 (v1 : Int), .int .i64 (v2 : Int), .int .i64 (v3 : Int), .int .u8 (o : Int), .slice A l.length c] 46 (0, 0)) from blk_below HX.out hb); obtain ⟨⟨b0, b1, b2, b3, b4, b5⟩, b6, b7, b8, b9, b10, b11⟩ := line_cells HX.out; clear hb))
    go_ret
    exact ⟨by rw [HZ2.out]; rfl, HB.out⟩
  rcases hks with hks | hks
  · subst hks
    have hj : j = 3 := by have := HK.out; omega
    subst hj
    have HZ2 := Lk.mk (show Z = U ++ Np ++ Ng by
      obtain ⟨e1, e2, e3, e4, e5, e6, e7, e8⟩ := HN.out
      rw [HZ.out, HU.out, e1, e2]
      rw [show lineW 4 p g f d s v0 v1 v2 v3 o l = fW 3 :: ([dec p, dec g]) from rfl, joinW_cons]
      simp only [joinT, sp, bapp, bnil])
    obtain ⟨y0, y1, y2, y3, y4, y5, y6, y7, y8⟩ := HZS.out
    have hc1 : ¬ 9223372036854775807 < U.size + Np.size + Ng.size := by omega
    clear y0 y1 y2 y3 y4 y5 y6 y7 y8
    have HI := Lk.mk (show ∀ W : World, Calls Tryd.prog 31 #[.int .u8 4, .slice (some ⟨W.heap.size, 0, none⟩) 4 4] (W.alloc (.cells #[.int .u8 1, .int .u8 11, .int .u8 12, .int .u8 13] 5)) fun e w' => e = .returned (.bool false) ∧ w' = W.alloc (.cells #[.int .u8 1, .int .u8 11, .int .u8 12, .int .u8 13] 5) from fun W => rin_lit 4 [1, 11, 12, 13] false W _ rfl (by decide) (by decide))
    go_wp2_with (first
      | (go_at_call 31; (with_reducible refine (HI.out _).mono ?_); rintro e w3 ⟨rfl, hw⟩; have HB := Lk.mk (show Below w.heap.size w w3 by rw [hw]; exact below_alloc HB.out _); have HX := Lk.mk (show w3.heap[w.heap.size]? = some (.cells #[.int .u8 4, .int .i64 (p : Int), .int .i64 (g : Int), .int .i64 (f : Int), .int .i64 (d : Int), .int .i64 (s : Int), .int .u8 v0, .int .u64 (v1 : Int), .int .i64 (v2 : Int), .int .i64 (v3 : Int), .int .u8 (o : Int), .slice A l.length c] 46 (0, 0)) by rw [hw]; exact blk_alloc HX.out _); obtain ⟨⟨b0, b1, b2, b3, b4, b5⟩, b6, b7, b8, b9, b10, b11⟩ := line_cells HX.out; clear hw)
      | (go_at_call 35; (with_reducible refine (HNg.out _).mono ?_); rintro e w3 ⟨rfl, hb⟩; have HB := Lk.mk (below_then HB.out HB.out.size hb); have HX := Lk.mk (show w3.heap[w.heap.size]? = some (.cells #[.int .u8 4, .int .i64 (p : Int), .int .i64 (g : Int), .int .i64 (f : Int), .int .i64 (d : Int), .int .i64 (s : Int), .int .u8 v0, .int .u64 (v1 : Int), .int .i64 (v2 : Int), .int .i64 (v3 : Int), .int .u8 (o : Int), .slice A l.length c] 46 (0, 0)) from blk_below HX.out hb); obtain ⟨⟨b0, b1, b2, b3, b4, b5⟩, b6, b7, b8, b9, b10, b11⟩ := line_cells HX.out; clear hb))
    go_ret
    exact ⟨by rw [HZ2.out]; rfl, HB.out⟩
  rcases hks with hks | hks
  · subst hks
    have hj : j = 4 := by have := HK.out; omega
    subst hj
    have HZ2 := Lk.mk (show Z = U ++ Np ++ Ng ++ Nd ++ Ns ++ V by
      obtain ⟨e1, e2, e3, e4, e5, e6, e7, e8⟩ := HN.out
      rw [HZ.out, HU.out, e1, e2, e4, e5, e7]
      rw [show lineW 5 p g f d s v0 v1 v2 v3 o l = fW 4 :: ([dec p, dec g, dec d, dec s] ++ (vW v0 v1 v2 v3 ++ [])) from rfl, List.append_nil, joinW_cons, joinT_append, show joinT (vW v0 v1 v2 v3) = vT v0 v1 v2 v3 from rfl]
      simp only [joinT, sp, bapp, bnil])
    obtain ⟨y0, y1, y2, y3, y4, y5, y6, y7, y8⟩ := HZS.out
    have hc1 : ¬ 9223372036854775807 < U.size + Np.size + Ng.size := by omega
    have hc2 : ¬ 9223372036854775807 < U.size + Np.size + Ng.size + Nd.size := by omega
    have hc3 : ¬ 9223372036854775807 < U.size + Np.size + Ng.size + Nd.size + Ns.size := by omega
    have hc4 : ¬ 9223372036854775807 < U.size + Np.size + Ng.size + Nd.size + Ns.size + V.size := by omega
    clear y0 y1 y2 y3 y4 y5 y6 y7 y8
    have HI := Lk.mk (show ∀ W : World, Calls Tryd.prog 31 #[.int .u8 5, .slice (some ⟨W.heap.size, 0, none⟩) 4 4] (W.alloc (.cells #[.int .u8 1, .int .u8 11, .int .u8 12, .int .u8 13] 5)) fun e w' => e = .returned (.bool false) ∧ w' = W.alloc (.cells #[.int .u8 1, .int .u8 11, .int .u8 12, .int .u8 13] 5) from fun W => rin_lit 5 [1, 11, 12, 13] false W _ rfl (by decide) (by decide))
    go_wp2_with (first
      | (go_at_call 31; (with_reducible refine (HI.out _).mono ?_); rintro e w3 ⟨rfl, hw⟩; have HB := Lk.mk (show Below w.heap.size w w3 by rw [hw]; exact below_alloc HB.out _); have HX := Lk.mk (show w3.heap[w.heap.size]? = some (.cells #[.int .u8 5, .int .i64 (p : Int), .int .i64 (g : Int), .int .i64 (f : Int), .int .i64 (d : Int), .int .i64 (s : Int), .int .u8 v0, .int .u64 (v1 : Int), .int .i64 (v2 : Int), .int .i64 (v3 : Int), .int .u8 (o : Int), .slice A l.length c] 46 (0, 0)) by rw [hw]; exact blk_alloc HX.out _); obtain ⟨⟨b0, b1, b2, b3, b4, b5⟩, b6, b7, b8, b9, b10, b11⟩ := line_cells HX.out; clear hw)
      | (go_at_call 35; (with_reducible refine (HNg.out _).mono ?_); rintro e w3 ⟨rfl, hb⟩; have HB := Lk.mk (below_then HB.out HB.out.size hb); have HX := Lk.mk (show w3.heap[w.heap.size]? = some (.cells #[.int .u8 5, .int .i64 (p : Int), .int .i64 (g : Int), .int .i64 (f : Int), .int .i64 (d : Int), .int .i64 (s : Int), .int .u8 v0, .int .u64 (v1 : Int), .int .i64 (v2 : Int), .int .i64 (v3 : Int), .int .u8 (o : Int), .slice A l.length c] 46 (0, 0)) from blk_below HX.out hb); obtain ⟨⟨b0, b1, b2, b3, b4, b5⟩, b6, b7, b8, b9, b10, b11⟩ := line_cells HX.out; clear hb))
    clear b0 b1 b2 b3 b4 b5 b6 b7 b8 b9 b10 b11
    (refine wpU_begin (fun W => Below w.heap.size w W ∧ W.heap[w.heap.size]? = some (.cells #[.int .u8 5, .int .i64 (p : Int), .int .i64 (g : Int), .int .i64 (f : Int), .int .i64 (d : Int), .int .i64 (s : Int), .int .u8 v0, .int .u64 (v1 : Int), .int .i64 (v2 : Int), .int .i64 (v3 : Int), .int .u8 (o : Int), .slice A l.length c] 46 (0, 0))) (by kernel_rfl) ⟨below_drew1 HB.out, blk_drew HX.out⟩ ?_)
    (refine wpU_pure (i := 0) (v := ?_) rfl (by kernel_rfl) (by kernel_rfl) (by kernel_rfl) (fun _ _ _ _ _ h => h) (fun _ _ _ _ _ h => h) (by rfl) ?_ ?_); rotate_left; (focus (intro w' hS; (try dsimp only at hS); obtain ⟨⟨b0, b1, b2, b3, b4, b5⟩, b6, b7, b8, b9, b10, b11⟩ := line_cells hS.2; go_simp; (with_reducible rfl))); (try simp only [Act.put, List.setIfInBounds_toArray, List.set_cons_zero, List.set_cons_succ]); (refine wpU_pure (i := 1) (v := ?_) rfl (by kernel_rfl) (by kernel_rfl) (by kernel_rfl) (fun _ _ _ _ _ h => h) (fun _ _ _ _ _ h => h) (by rfl) ?_ ?_); rotate_left; (focus (intro w' hS; (try dsimp only at hS); obtain ⟨⟨b0, b1, b2, b3, b4, b5⟩, b6, b7, b8, b9, b10, b11⟩ := line_cells hS.2; go_simp; (with_reducible rfl))); (try simp only [Act.put, List.setIfInBounds_toArray, List.set_cons_zero, List.set_cons_succ]); (refine wpU_pure (i := 2) (v := ?_) rfl (by kernel_rfl) (by kernel_rfl) (by kernel_rfl) (fun _ _ _ _ _ h => h) (fun _ _ _ _ _ h => h) (by rfl) ?_ ?_); rotate_left; (focus (intro w' hS; (try dsimp only at hS); obtain ⟨⟨b0, b1, b2, b3, b4, b5⟩, b6, b7, b8, b9, b10, b11⟩ := line_cells hS.2; go_simp; (with_reducible rfl))); (try simp only [Act.put, List.setIfInBounds_toArray, List.set_cons_zero, List.set_cons_succ])
    (refine wpU_call (i := 3) (f := ?_) (args := ?_) (v := .string Nd) rfl (by kernel_rfl) (by kernel_rfl) (by kernel_rfl) (fun _ _ _ _ _ h => h) (fun _ _ _ _ _ h => h) (by rfl) ?_ ?_ ?_); rotate_left 2; (focus (intro w' hS; (try dsimp only at hS); skip; go_simp; (apply And.intro <;> with_reducible rfl))); (focus (intro w' hS; (try dsimp only at hS); with_reducible exact (HNd.out w').mono fun e w4 ⟨he, hb⟩ => ⟨he, below_then hS.1 hS.1.size hb, blk_below hS.2 hb⟩)); (try simp only [Act.put, List.setIfInBounds_toArray, List.set_cons_zero, List.set_cons_succ])
    (refine wpU_pure (i := 4) (v := ?_) rfl (by kernel_rfl) (by kernel_rfl) (by kernel_rfl) (fun _ _ _ _ _ h => h) (fun _ _ _ _ _ h => h) (by rfl) ?_ ?_); rotate_left; (focus (intro w' hS; (try dsimp only at hS); obtain ⟨⟨b0, b1, b2, b3, b4, b5⟩, b6, b7, b8, b9, b10, b11⟩ := line_cells hS.2; go_simp; (with_reducible rfl))); (try simp only [Act.put, List.setIfInBounds_toArray, List.set_cons_zero, List.set_cons_succ]); (refine wpU_pure (i := 5) (v := ?_) rfl (by kernel_rfl) (by kernel_rfl) (by kernel_rfl) (fun _ _ _ _ _ h => h) (fun _ _ _ _ _ h => h) (by rfl) ?_ ?_); rotate_left; (focus (intro w' hS; (try dsimp only at hS); obtain ⟨⟨b0, b1, b2, b3, b4, b5⟩, b6, b7, b8, b9, b10, b11⟩ := line_cells hS.2; go_simp; (with_reducible rfl))); (try simp only [Act.put, List.setIfInBounds_toArray, List.set_cons_zero, List.set_cons_succ]); (refine wpU_pure (i := 6) (v := ?_) rfl (by kernel_rfl) (by kernel_rfl) (by kernel_rfl) (fun _ _ _ _ _ h => h) (fun _ _ _ _ _ h => h) (by rfl) ?_ ?_); rotate_left; (focus (intro w' hS; (try dsimp only at hS); obtain ⟨⟨b0, b1, b2, b3, b4, b5⟩, b6, b7, b8, b9, b10, b11⟩ := line_cells hS.2; go_simp; (with_reducible rfl))); (try simp only [Act.put, List.setIfInBounds_toArray, List.set_cons_zero, List.set_cons_succ])
    (refine wpU_call (i := 7) (f := ?_) (args := ?_) (v := .string Ns) rfl (by kernel_rfl) (by kernel_rfl) (by kernel_rfl) (fun _ _ _ _ _ h => h) (fun _ _ _ _ _ h => h) (by rfl) ?_ ?_ ?_); rotate_left 2; (focus (intro w' hS; (try dsimp only at hS); skip; go_simp; (apply And.intro <;> with_reducible rfl))); (focus (intro w' hS; (try dsimp only at hS); with_reducible exact (HNs.out w').mono fun e w4 ⟨he, hb⟩ => ⟨he, below_then hS.1 hS.1.size hb, blk_below hS.2 hb⟩)); (try simp only [Act.put, List.setIfInBounds_toArray, List.set_cons_zero, List.set_cons_succ])
    (refine wpU_pure (i := 8) (v := ?_) rfl (by kernel_rfl) (by kernel_rfl) (by kernel_rfl) (fun _ _ _ _ _ h => h) (fun _ _ _ _ _ h => h) (by rfl) ?_ ?_); rotate_left; (focus (intro w' hS; (try dsimp only at hS); obtain ⟨⟨b0, b1, b2, b3, b4, b5⟩, b6, b7, b8, b9, b10, b11⟩ := line_cells hS.2; go_simp; (with_reducible rfl))); (try simp only [Act.put, List.setIfInBounds_toArray, List.set_cons_zero, List.set_cons_succ]); (refine wpU_pure (i := 9) (v := ?_) rfl (by kernel_rfl) (by kernel_rfl) (by kernel_rfl) (fun _ _ _ _ _ h => h) (fun _ _ _ _ _ h => h) (by rfl) ?_ ?_); rotate_left; (focus (intro w' hS; (try dsimp only at hS); obtain ⟨⟨b0, b1, b2, b3, b4, b5⟩, b6, b7, b8, b9, b10, b11⟩ := line_cells hS.2; go_simp; (with_reducible rfl))); (try simp only [Act.put, List.setIfInBounds_toArray, List.set_cons_zero, List.set_cons_succ]); (refine wpU_pure (i := 10) (v := ?_) rfl (by kernel_rfl) (by kernel_rfl) (by kernel_rfl) (fun _ _ _ _ _ h => h) (fun _ _ _ _ _ h => h) (by rfl) ?_ ?_); rotate_left; (focus (intro w' hS; (try dsimp only at hS); obtain ⟨⟨b0, b1, b2, b3, b4, b5⟩, b6, b7, b8, b9, b10, b11⟩ := line_cells hS.2; go_simp; (with_reducible rfl))); (try simp only [Act.put, List.setIfInBounds_toArray, List.set_cons_zero, List.set_cons_succ])
    (refine wpU_call (i := 11) (f := ?_) (args := ?_) (v := .string V) rfl (by kernel_rfl) (by kernel_rfl) (by kernel_rfl) (fun _ _ _ _ _ h => h) (fun _ _ _ _ _ h => h) (by rfl) ?_ ?_ ?_); rotate_left 2; (focus (intro w' hS; (try dsimp only at hS); skip; go_simp; (apply And.intro <;> with_reducible rfl))); (focus (intro w' hS; (try dsimp only at hS); exact (HVA.out (by first | rfl | trivial) w').mono fun e w4 ⟨he, hb⟩ => ⟨he, below_then hS.1 hS.1.size hb, blk_below hS.2 hb⟩)); (try simp only [Act.put, List.setIfInBounds_toArray, List.set_cons_zero, List.set_cons_succ])
    (refine wpU_pure (i := 12) (v := ?_) rfl (by kernel_rfl) (by kernel_rfl) (by kernel_rfl) (fun _ _ _ _ _ h => h) (fun _ _ _ _ _ h => h) (by rfl) ?_ ?_); rotate_left; (focus (intro w' hS; (try dsimp only at hS); skip; go_simp; (with_reducible rfl))); (try simp only [Act.put, List.setIfInBounds_toArray, List.set_cons_zero, List.set_cons_succ]); (refine wpU_pure (i := 13) (v := ?_) rfl (by kernel_rfl) (by kernel_rfl) (by kernel_rfl) (fun _ _ _ _ _ h => h) (fun _ _ _ _ _ h => h) (by rfl) ?_ ?_); rotate_left; (focus (intro w' hS; (try dsimp only at hS); skip; go_simp; (with_reducible rfl))); (try simp only [Act.put, List.setIfInBounds_toArray, List.set_cons_zero, List.set_cons_succ])
    (refine wpU_done (by kernel_rfl) ?_ _)
    rintro w5 ⟨hB5, hX5⟩
    have HB := Lk.mk hB5
    clear hB5 hX5
    go_wp2
    go_ret
    exact ⟨by rw [HZ2.out]; rfl, HB.out⟩
  rcases hks with hks | hks
  · subst hks
    have hj : j = 5 := by have := HK.out; omega
    subst hj
    have HZ2 := Lk.mk (show Z = U ++ Np ++ Ng ++ Nd ++ Ns by
      obtain ⟨e1, e2, e3, e4, e5, e6, e7, e8⟩ := HN.out
      rw [HZ.out, HU.out, e1, e2, e4, e5]
      rw [show lineW 6 p g f d s v0 v1 v2 v3 o l = fW 5 :: ([dec p, dec g, dec d, dec s]) from rfl, joinW_cons]
      simp only [joinT, sp, bapp, bnil])
    obtain ⟨y0, y1, y2, y3, y4, y5, y6, y7, y8⟩ := HZS.out
    have hc1 : ¬ 9223372036854775807 < U.size + Np.size + Ng.size := by omega
    have hc2 : ¬ 9223372036854775807 < U.size + Np.size + Ng.size + Nd.size := by omega
    have hc3 : ¬ 9223372036854775807 < U.size + Np.size + Ng.size + Nd.size + Ns.size := by omega
    clear y0 y1 y2 y3 y4 y5 y6 y7 y8
    have HI := Lk.mk (show ∀ W : World, Calls Tryd.prog 31 #[.int .u8 6, .slice (some ⟨W.heap.size, 0, none⟩) 4 4] (W.alloc (.cells #[.int .u8 1, .int .u8 11, .int .u8 12, .int .u8 13] 5)) fun e w' => e = .returned (.bool false) ∧ w' = W.alloc (.cells #[.int .u8 1, .int .u8 11, .int .u8 12, .int .u8 13] 5) from fun W => rin_lit 6 [1, 11, 12, 13] false W _ rfl (by decide) (by decide))
    go_wp2_with (first
      | (go_at_call 31; (with_reducible refine (HI.out _).mono ?_); rintro e w3 ⟨rfl, hw⟩; have HB := Lk.mk (show Below w.heap.size w w3 by rw [hw]; exact below_alloc HB.out _); have HX := Lk.mk (show w3.heap[w.heap.size]? = some (.cells #[.int .u8 6, .int .i64 (p : Int), .int .i64 (g : Int), .int .i64 (f : Int), .int .i64 (d : Int), .int .i64 (s : Int), .int .u8 v0, .int .u64 (v1 : Int), .int .i64 (v2 : Int), .int .i64 (v3 : Int), .int .u8 (o : Int), .slice A l.length c] 46 (0, 0)) by rw [hw]; exact blk_alloc HX.out _); obtain ⟨⟨b0, b1, b2, b3, b4, b5⟩, b6, b7, b8, b9, b10, b11⟩ := line_cells HX.out; clear hw)
      | (go_at_call 35; (with_reducible refine (HNg.out _).mono ?_); rintro e w3 ⟨rfl, hb⟩; have HB := Lk.mk (below_then HB.out HB.out.size hb); have HX := Lk.mk (show w3.heap[w.heap.size]? = some (.cells #[.int .u8 6, .int .i64 (p : Int), .int .i64 (g : Int), .int .i64 (f : Int), .int .i64 (d : Int), .int .i64 (s : Int), .int .u8 v0, .int .u64 (v1 : Int), .int .i64 (v2 : Int), .int .i64 (v3 : Int), .int .u8 (o : Int), .slice A l.length c] 46 (0, 0)) from blk_below HX.out hb); obtain ⟨⟨b0, b1, b2, b3, b4, b5⟩, b6, b7, b8, b9, b10, b11⟩ := line_cells HX.out; clear hb))
    clear b0 b1 b2 b3 b4 b5 b6 b7 b8 b9 b10 b11
    (refine wpU_begin (fun W => Below w.heap.size w W ∧ W.heap[w.heap.size]? = some (.cells #[.int .u8 6, .int .i64 (p : Int), .int .i64 (g : Int), .int .i64 (f : Int), .int .i64 (d : Int), .int .i64 (s : Int), .int .u8 v0, .int .u64 (v1 : Int), .int .i64 (v2 : Int), .int .i64 (v3 : Int), .int .u8 (o : Int), .slice A l.length c] 46 (0, 0))) (by kernel_rfl) ⟨below_drew1 HB.out, blk_drew HX.out⟩ ?_)
    (refine wpU_pure (i := 0) (v := ?_) rfl (by kernel_rfl) (by kernel_rfl) (by kernel_rfl) (fun _ _ _ _ _ h => h) (fun _ _ _ _ _ h => h) (by rfl) ?_ ?_); rotate_left; (focus (intro w' hS; (try dsimp only at hS); obtain ⟨⟨b0, b1, b2, b3, b4, b5⟩, b6, b7, b8, b9, b10, b11⟩ := line_cells hS.2; go_simp; (with_reducible rfl))); (try simp only [Act.put, List.setIfInBounds_toArray, List.set_cons_zero, List.set_cons_succ]); (refine wpU_pure (i := 1) (v := ?_) rfl (by kernel_rfl) (by kernel_rfl) (by kernel_rfl) (fun _ _ _ _ _ h => h) (fun _ _ _ _ _ h => h) (by rfl) ?_ ?_); rotate_left; (focus (intro w' hS; (try dsimp only at hS); obtain ⟨⟨b0, b1, b2, b3, b4, b5⟩, b6, b7, b8, b9, b10, b11⟩ := line_cells hS.2; go_simp; (with_reducible rfl))); (try simp only [Act.put, List.setIfInBounds_toArray, List.set_cons_zero, List.set_cons_succ]); (refine wpU_pure (i := 2) (v := ?_) rfl (by kernel_rfl) (by kernel_rfl) (by kernel_rfl) (fun _ _ _ _ _ h => h) (fun _ _ _ _ _ h => h) (by rfl) ?_ ?_); rotate_left; (focus (intro w' hS; (try dsimp only at hS); obtain ⟨⟨b0, b1, b2, b3, b4, b5⟩, b6, b7, b8, b9, b10, b11⟩ := line_cells hS.2; go_simp; (with_reducible rfl))); (try simp only [Act.put, List.setIfInBounds_toArray, List.set_cons_zero, List.set_cons_succ])
    (refine wpU_call (i := 3) (f := ?_) (args := ?_) (v := .string Nd) rfl (by kernel_rfl) (by kernel_rfl) (by kernel_rfl) (fun _ _ _ _ _ h => h) (fun _ _ _ _ _ h => h) (by rfl) ?_ ?_ ?_); rotate_left 2; (focus (intro w' hS; (try dsimp only at hS); skip; go_simp; (apply And.intro <;> with_reducible rfl))); (focus (intro w' hS; (try dsimp only at hS); with_reducible exact (HNd.out w').mono fun e w4 ⟨he, hb⟩ => ⟨he, below_then hS.1 hS.1.size hb, blk_below hS.2 hb⟩)); (try simp only [Act.put, List.setIfInBounds_toArray, List.set_cons_zero, List.set_cons_succ])
    (refine wpU_pure (i := 4) (v := ?_) rfl (by kernel_rfl) (by kernel_rfl) (by kernel_rfl) (fun _ _ _ _ _ h => h) (fun _ _ _ _ _ h => h) (by rfl) ?_ ?_); rotate_left; (focus (intro w' hS; (try dsimp only at hS); obtain ⟨⟨b0, b1, b2, b3, b4, b5⟩, b6, b7, b8, b9, b10, b11⟩ := line_cells hS.2; go_simp; (with_reducible rfl))); (try simp only [Act.put, List.setIfInBounds_toArray, List.set_cons_zero, List.set_cons_succ]); (refine wpU_pure (i := 5) (v := ?_) rfl (by kernel_rfl) (by kernel_rfl) (by kernel_rfl) (fun _ _ _ _ _ h => h) (fun _ _ _ _ _ h => h) (by rfl) ?_ ?_); rotate_left; (focus (intro w' hS; (try dsimp only at hS); obtain ⟨⟨b0, b1, b2, b3, b4, b5⟩, b6, b7, b8, b9, b10, b11⟩ := line_cells hS.2; go_simp; (with_reducible rfl))); (try simp only [Act.put, List.setIfInBounds_toArray, List.set_cons_zero, List.set_cons_succ]); (refine wpU_pure (i := 6) (v := ?_) rfl (by kernel_rfl) (by kernel_rfl) (by kernel_rfl) (fun _ _ _ _ _ h => h) (fun _ _ _ _ _ h => h) (by rfl) ?_ ?_); rotate_left; (focus (intro w' hS; (try dsimp only at hS); obtain ⟨⟨b0, b1, b2, b3, b4, b5⟩, b6, b7, b8, b9, b10, b11⟩ := line_cells hS.2; go_simp; (with_reducible rfl))); (try simp only [Act.put, List.setIfInBounds_toArray, List.set_cons_zero, List.set_cons_succ])
    (refine wpU_call (i := 7) (f := ?_) (args := ?_) (v := .string Ns) rfl (by kernel_rfl) (by kernel_rfl) (by kernel_rfl) (fun _ _ _ _ _ h => h) (fun _ _ _ _ _ h => h) (by rfl) ?_ ?_ ?_); rotate_left 2; (focus (intro w' hS; (try dsimp only at hS); skip; go_simp; (apply And.intro <;> with_reducible rfl))); (focus (intro w' hS; (try dsimp only at hS); with_reducible exact (HNs.out w').mono fun e w4 ⟨he, hb⟩ => ⟨he, below_then hS.1 hS.1.size hb, blk_below hS.2 hb⟩)); (try simp only [Act.put, List.setIfInBounds_toArray, List.set_cons_zero, List.set_cons_succ])
    (refine wpU_pure (i := 8) (v := ?_) rfl (by kernel_rfl) (by kernel_rfl) (by kernel_rfl) (fun _ _ _ _ _ h => h) (fun _ _ _ _ _ h => h) (by rfl) ?_ ?_); rotate_left; (focus (intro w' hS; (try dsimp only at hS); skip; go_simp; (with_reducible rfl))); (try simp only [Act.put, List.setIfInBounds_toArray, List.set_cons_zero, List.set_cons_succ]); (refine wpU_pure (i := 9) (v := ?_) rfl (by kernel_rfl) (by kernel_rfl) (by kernel_rfl) (fun _ _ _ _ _ h => h) (fun _ _ _ _ _ h => h) (by rfl) ?_ ?_); rotate_left; (focus (intro w' hS; (try dsimp only at hS); skip; go_simp; (with_reducible rfl))); (try simp only [Act.put, List.setIfInBounds_toArray, List.set_cons_zero, List.set_cons_succ])
    (refine wpU_done (by kernel_rfl) ?_ _)
    rintro w5 ⟨hB5, hX5⟩
    have HB := Lk.mk hB5
    clear hB5 hX5
    go_wp2
    go_ret
    exact ⟨by rw [HZ2.out]; rfl, HB.out⟩
  rcases hks with hks | hks
  · subst hks
    have hj : j = 6 := by have := HK.out; omega
    subst hj
    have HZ2 := Lk.mk (show Z = U ++ Np ++ Ng ++ Nd ++ Ns by
      obtain ⟨e1, e2, e3, e4, e5, e6, e7, e8⟩ := HN.out
      rw [HZ.out, HU.out, e1, e2, e4, e5]
      rw [show lineW 7 p g f d s v0 v1 v2 v3 o l = fW 6 :: ([dec p, dec g, dec d, dec s]) from rfl, joinW_cons]
      simp only [joinT, sp, bapp, bnil])
    obtain ⟨y0, y1, y2, y3, y4, y5, y6, y7, y8⟩ := HZS.out
    have hc1 : ¬ 9223372036854775807 < U.size + Np.size + Ng.size := by omega
    have hc2 : ¬ 9223372036854775807 < U.size + Np.size + Ng.size + Nd.size := by omega
    have hc3 : ¬ 9223372036854775807 < U.size + Np.size + Ng.size + Nd.size + Ns.size := by omega
    clear y0 y1 y2 y3 y4 y5 y6 y7 y8
    have HI := Lk.mk (show ∀ W : World, Calls Tryd.prog 31 #[.int .u8 7, .slice (some ⟨W.heap.size, 0, none⟩) 4 4] (W.alloc (.cells #[.int .u8 1, .int .u8 11, .int .u8 12, .int .u8 13] 5)) fun e w' => e = .returned (.bool false) ∧ w' = W.alloc (.cells #[.int .u8 1, .int .u8 11, .int .u8 12, .int .u8 13] 5) from fun W => rin_lit 7 [1, 11, 12, 13] false W _ rfl (by decide) (by decide))
    go_wp2_with (first
      | (go_at_call 31; (with_reducible refine (HI.out _).mono ?_); rintro e w3 ⟨rfl, hw⟩; have HB := Lk.mk (show Below w.heap.size w w3 by rw [hw]; exact below_alloc HB.out _); have HX := Lk.mk (show w3.heap[w.heap.size]? = some (.cells #[.int .u8 7, .int .i64 (p : Int), .int .i64 (g : Int), .int .i64 (f : Int), .int .i64 (d : Int), .int .i64 (s : Int), .int .u8 v0, .int .u64 (v1 : Int), .int .i64 (v2 : Int), .int .i64 (v3 : Int), .int .u8 (o : Int), .slice A l.length c] 46 (0, 0)) by rw [hw]; exact blk_alloc HX.out _); obtain ⟨⟨b0, b1, b2, b3, b4, b5⟩, b6, b7, b8, b9, b10, b11⟩ := line_cells HX.out; clear hw)
      | (go_at_call 35; (with_reducible refine (HNg.out _).mono ?_); rintro e w3 ⟨rfl, hb⟩; have HB := Lk.mk (below_then HB.out HB.out.size hb); have HX := Lk.mk (show w3.heap[w.heap.size]? = some (.cells #[.int .u8 7, .int .i64 (p : Int), .int .i64 (g : Int), .int .i64 (f : Int), .int .i64 (d : Int), .int .i64 (s : Int), .int .u8 v0, .int .u64 (v1 : Int), .int .i64 (v2 : Int), .int .i64 (v3 : Int), .int .u8 (o : Int), .slice A l.length c] 46 (0, 0)) from blk_below HX.out hb); obtain ⟨⟨b0, b1, b2, b3, b4, b5⟩, b6, b7, b8, b9, b10, b11⟩ := line_cells HX.out; clear hb))
    clear b0 b1 b2 b3 b4 b5 b6 b7 b8 b9 b10 b11
    (refine wpU_begin (fun W => Below w.heap.size w W ∧ W.heap[w.heap.size]? = some (.cells #[.int .u8 7, .int .i64 (p : Int), .int .i64 (g : Int), .int .i64 (f : Int), .int .i64 (d : Int), .int .i64 (s : Int), .int .u8 v0, .int .u64 (v1 : Int), .int .i64 (v2 : Int), .int .i64 (v3 : Int), .int .u8 (o : Int), .slice A l.length c] 46 (0, 0))) (by kernel_rfl) ⟨below_drew1 HB.out, blk_drew HX.out⟩ ?_)
    (refine wpU_pure (i := 0) (v := ?_) rfl (by kernel_rfl) (by kernel_rfl) (by kernel_rfl) (fun _ _ _ _ _ h => h) (fun _ _ _ _ _ h => h) (by rfl) ?_ ?_); rotate_left; (focus (intro w' hS; (try dsimp only at hS); obtain ⟨⟨b0, b1, b2, b3, b4, b5⟩, b6, b7, b8, b9, b10, b11⟩ := line_cells hS.2; go_simp; (with_reducible rfl))); (try simp only [Act.put, List.setIfInBounds_toArray, List.set_cons_zero, List.set_cons_succ]); (refine wpU_pure (i := 1) (v := ?_) rfl (by kernel_rfl) (by kernel_rfl) (by kernel_rfl) (fun _ _ _ _ _ h => h) (fun _ _ _ _ _ h => h) (by rfl) ?_ ?_); rotate_left; (focus (intro w' hS; (try dsimp only at hS); obtain ⟨⟨b0, b1, b2, b3, b4, b5⟩, b6, b7, b8, b9, b10, b11⟩ := line_cells hS.2; go_simp; (with_reducible rfl))); (try simp only [Act.put, List.setIfInBounds_toArray, List.set_cons_zero, List.set_cons_succ]); (refine wpU_pure (i := 2) (v := ?_) rfl (by kernel_rfl) (by kernel_rfl) (by kernel_rfl) (fun _ _ _ _ _ h => h) (fun _ _ _ _ _ h => h) (by rfl) ?_ ?_); rotate_left; (focus (intro w' hS; (try dsimp only at hS); obtain ⟨⟨b0, b1, b2, b3, b4, b5⟩, b6, b7, b8, b9, b10, b11⟩ := line_cells hS.2; go_simp; (with_reducible rfl))); (try simp only [Act.put, List.setIfInBounds_toArray, List.set_cons_zero, List.set_cons_succ])
    (refine wpU_call (i := 3) (f := ?_) (args := ?_) (v := .string Nd) rfl (by kernel_rfl) (by kernel_rfl) (by kernel_rfl) (fun _ _ _ _ _ h => h) (fun _ _ _ _ _ h => h) (by rfl) ?_ ?_ ?_); rotate_left 2; (focus (intro w' hS; (try dsimp only at hS); skip; go_simp; (apply And.intro <;> with_reducible rfl))); (focus (intro w' hS; (try dsimp only at hS); with_reducible exact (HNd.out w').mono fun e w4 ⟨he, hb⟩ => ⟨he, below_then hS.1 hS.1.size hb, blk_below hS.2 hb⟩)); (try simp only [Act.put, List.setIfInBounds_toArray, List.set_cons_zero, List.set_cons_succ])
    (refine wpU_pure (i := 4) (v := ?_) rfl (by kernel_rfl) (by kernel_rfl) (by kernel_rfl) (fun _ _ _ _ _ h => h) (fun _ _ _ _ _ h => h) (by rfl) ?_ ?_); rotate_left; (focus (intro w' hS; (try dsimp only at hS); obtain ⟨⟨b0, b1, b2, b3, b4, b5⟩, b6, b7, b8, b9, b10, b11⟩ := line_cells hS.2; go_simp; (with_reducible rfl))); (try simp only [Act.put, List.setIfInBounds_toArray, List.set_cons_zero, List.set_cons_succ]); (refine wpU_pure (i := 5) (v := ?_) rfl (by kernel_rfl) (by kernel_rfl) (by kernel_rfl) (fun _ _ _ _ _ h => h) (fun _ _ _ _ _ h => h) (by rfl) ?_ ?_); rotate_left; (focus (intro w' hS; (try dsimp only at hS); obtain ⟨⟨b0, b1, b2, b3, b4, b5⟩, b6, b7, b8, b9, b10, b11⟩ := line_cells hS.2; go_simp; (with_reducible rfl))); (try simp only [Act.put, List.setIfInBounds_toArray, List.set_cons_zero, List.set_cons_succ]); (refine wpU_pure (i := 6) (v := ?_) rfl (by kernel_rfl) (by kernel_rfl) (by kernel_rfl) (fun _ _ _ _ _ h => h) (fun _ _ _ _ _ h => h) (by rfl) ?_ ?_); rotate_left; (focus (intro w' hS; (try dsimp only at hS); obtain ⟨⟨b0, b1, b2, b3, b4, b5⟩, b6, b7, b8, b9, b10, b11⟩ := line_cells hS.2; go_simp; (with_reducible rfl))); (try simp only [Act.put, List.setIfInBounds_toArray, List.set_cons_zero, List.set_cons_succ])
    (refine wpU_call (i := 7) (f := ?_) (args := ?_) (v := .string Ns) rfl (by kernel_rfl) (by kernel_rfl) (by kernel_rfl) (fun _ _ _ _ _ h => h) (fun _ _ _ _ _ h => h) (by rfl) ?_ ?_ ?_); rotate_left 2; (focus (intro w' hS; (try dsimp only at hS); skip; go_simp; (apply And.intro <;> with_reducible rfl))); (focus (intro w' hS; (try dsimp only at hS); with_reducible exact (HNs.out w').mono fun e w4 ⟨he, hb⟩ => ⟨he, below_then hS.1 hS.1.size hb, blk_below hS.2 hb⟩)); (try simp only [Act.put, List.setIfInBounds_toArray, List.set_cons_zero, List.set_cons_succ])
    (refine wpU_pure (i := 8) (v := ?_) rfl (by kernel_rfl) (by kernel_rfl) (by kernel_rfl) (fun _ _ _ _ _ h => h) (fun _ _ _ _ _ h => h) (by rfl) ?_ ?_); rotate_left; (focus (intro w' hS; (try dsimp only at hS); skip; go_simp; (with_reducible rfl))); (try simp only [Act.put, List.setIfInBounds_toArray, List.set_cons_zero, List.set_cons_succ]); (refine wpU_pure (i := 9) (v := ?_) rfl (by kernel_rfl) (by kernel_rfl) (by kernel_rfl) (fun _ _ _ _ _ h => h) (fun _ _ _ _ _ h => h) (by rfl) ?_ ?_); rotate_left; (focus (intro w' hS; (try dsimp only at hS); skip; go_simp; (with_reducible rfl))); (try simp only [Act.put, List.setIfInBounds_toArray, List.set_cons_zero, List.set_cons_succ])
    (refine wpU_done (by kernel_rfl) ?_ _)
    rintro w5 ⟨hB5, hX5⟩
    have HB := Lk.mk hB5
    clear hB5 hX5
    go_wp2
    go_ret
    exact ⟨by rw [HZ2.out]; rfl, HB.out⟩
  rcases hks with hks | hks
  · subst hks
    have hj : j = 7 := by have := HK.out; omega
    subst hj
    have HZ2 := Lk.mk (show Z = U ++ Np ++ Ng ++ Nd ++ Ns ++ (⟨#[32]⟩ : ByteArray) ++ T by
      obtain ⟨e1, e2, e3, e4, e5, e6, e7, e8⟩ := HN.out
      rw [HZ.out, HU.out, e1, e2, e4, e5, e8]
      rw [show lineW 8 p g f d s v0 v1 v2 v3 o l = fW 7 :: ([dec p, dec g, dec d, dec s, tx v1]) from rfl, joinW_cons]
      simp only [joinT, sp, bapp, bnil])
    obtain ⟨y0, y1, y2, y3, y4, y5, y6, y7, y8⟩ := HZS.out
    have hc1 : ¬ 9223372036854775807 < U.size + Np.size + Ng.size := by omega
    have hc2 : ¬ 9223372036854775807 < U.size + Np.size + Ng.size + Nd.size := by omega
    have hc3 : ¬ 9223372036854775807 < U.size + Np.size + Ng.size + Nd.size + Ns.size := by omega
    have hc4 : ¬ 9223372036854775807 < U.size + Np.size + Ng.size + Nd.size + Ns.size + 1 := by omega
    have hc5 : ¬ 9223372036854775807 < U.size + Np.size + Ng.size + Nd.size + Ns.size + 1 + T.size := by omega
    clear y0 y1 y2 y3 y4 y5 y6 y7 y8
    have HI := Lk.mk (show ∀ W : World, Calls Tryd.prog 31 #[.int .u8 8, .slice (some ⟨W.heap.size, 0, none⟩) 4 4] (W.alloc (.cells #[.int .u8 1, .int .u8 11, .int .u8 12, .int .u8 13] 5)) fun e w' => e = .returned (.bool false) ∧ w' = W.alloc (.cells #[.int .u8 1, .int .u8 11, .int .u8 12, .int .u8 13] 5) from fun W => rin_lit 8 [1, 11, 12, 13] false W _ rfl (by decide) (by decide))
    go_wp2_with (first
      | (go_at_call 31; (with_reducible refine (HI.out _).mono ?_); rintro e w3 ⟨rfl, hw⟩; have HB := Lk.mk (show Below w.heap.size w w3 by rw [hw]; exact below_alloc HB.out _); have HX := Lk.mk (show w3.heap[w.heap.size]? = some (.cells #[.int .u8 8, .int .i64 (p : Int), .int .i64 (g : Int), .int .i64 (f : Int), .int .i64 (d : Int), .int .i64 (s : Int), .int .u8 v0, .int .u64 (v1 : Int), .int .i64 (v2 : Int), .int .i64 (v3 : Int), .int .u8 (o : Int), .slice A l.length c] 46 (0, 0)) by rw [hw]; exact blk_alloc HX.out _); obtain ⟨⟨b0, b1, b2, b3, b4, b5⟩, b6, b7, b8, b9, b10, b11⟩ := line_cells HX.out; clear hw)
      | (go_at_call 35; (with_reducible refine (HNg.out _).mono ?_); rintro e w3 ⟨rfl, hb⟩; have HB := Lk.mk (below_then HB.out HB.out.size hb); have HX := Lk.mk (show w3.heap[w.heap.size]? = some (.cells #[.int .u8 8, .int .i64 (p : Int), .int .i64 (g : Int), .int .i64 (f : Int), .int .i64 (d : Int), .int .i64 (s : Int), .int .u8 v0, .int .u64 (v1 : Int), .int .i64 (v2 : Int), .int .i64 (v3 : Int), .int .u8 (o : Int), .slice A l.length c] 46 (0, 0)) from blk_below HX.out hb); obtain ⟨⟨b0, b1, b2, b3, b4, b5⟩, b6, b7, b8, b9, b10, b11⟩ := line_cells HX.out; clear hb))
    clear b0 b1 b2 b3 b4 b5 b6 b7 b8 b9 b10 b11
    (refine wpU_begin (fun W => Below w.heap.size w W ∧ W.heap[w.heap.size]? = some (.cells #[.int .u8 8, .int .i64 (p : Int), .int .i64 (g : Int), .int .i64 (f : Int), .int .i64 (d : Int), .int .i64 (s : Int), .int .u8 v0, .int .u64 (v1 : Int), .int .i64 (v2 : Int), .int .i64 (v3 : Int), .int .u8 (o : Int), .slice A l.length c] 46 (0, 0))) (by kernel_rfl) ⟨below_drew1 HB.out, blk_drew HX.out⟩ ?_)
    (refine wpU_pure (i := 0) (v := ?_) rfl (by kernel_rfl) (by kernel_rfl) (by kernel_rfl) (fun _ _ _ _ _ h => h) (fun _ _ _ _ _ h => h) (by rfl) ?_ ?_); rotate_left; (focus (intro w' hS; (try dsimp only at hS); obtain ⟨⟨b0, b1, b2, b3, b4, b5⟩, b6, b7, b8, b9, b10, b11⟩ := line_cells hS.2; go_simp; (with_reducible rfl))); (try simp only [Act.put, List.setIfInBounds_toArray, List.set_cons_zero, List.set_cons_succ]); (refine wpU_pure (i := 1) (v := ?_) rfl (by kernel_rfl) (by kernel_rfl) (by kernel_rfl) (fun _ _ _ _ _ h => h) (fun _ _ _ _ _ h => h) (by rfl) ?_ ?_); rotate_left; (focus (intro w' hS; (try dsimp only at hS); obtain ⟨⟨b0, b1, b2, b3, b4, b5⟩, b6, b7, b8, b9, b10, b11⟩ := line_cells hS.2; go_simp; (with_reducible rfl))); (try simp only [Act.put, List.setIfInBounds_toArray, List.set_cons_zero, List.set_cons_succ]); (refine wpU_pure (i := 2) (v := ?_) rfl (by kernel_rfl) (by kernel_rfl) (by kernel_rfl) (fun _ _ _ _ _ h => h) (fun _ _ _ _ _ h => h) (by rfl) ?_ ?_); rotate_left; (focus (intro w' hS; (try dsimp only at hS); obtain ⟨⟨b0, b1, b2, b3, b4, b5⟩, b6, b7, b8, b9, b10, b11⟩ := line_cells hS.2; go_simp; (with_reducible rfl))); (try simp only [Act.put, List.setIfInBounds_toArray, List.set_cons_zero, List.set_cons_succ])
    (refine wpU_call (i := 3) (f := ?_) (args := ?_) (v := .string Nd) rfl (by kernel_rfl) (by kernel_rfl) (by kernel_rfl) (fun _ _ _ _ _ h => h) (fun _ _ _ _ _ h => h) (by rfl) ?_ ?_ ?_); rotate_left 2; (focus (intro w' hS; (try dsimp only at hS); skip; go_simp; (apply And.intro <;> with_reducible rfl))); (focus (intro w' hS; (try dsimp only at hS); with_reducible exact (HNd.out w').mono fun e w4 ⟨he, hb⟩ => ⟨he, below_then hS.1 hS.1.size hb, blk_below hS.2 hb⟩)); (try simp only [Act.put, List.setIfInBounds_toArray, List.set_cons_zero, List.set_cons_succ])
    (refine wpU_pure (i := 4) (v := ?_) rfl (by kernel_rfl) (by kernel_rfl) (by kernel_rfl) (fun _ _ _ _ _ h => h) (fun _ _ _ _ _ h => h) (by rfl) ?_ ?_); rotate_left; (focus (intro w' hS; (try dsimp only at hS); obtain ⟨⟨b0, b1, b2, b3, b4, b5⟩, b6, b7, b8, b9, b10, b11⟩ := line_cells hS.2; go_simp; (with_reducible rfl))); (try simp only [Act.put, List.setIfInBounds_toArray, List.set_cons_zero, List.set_cons_succ]); (refine wpU_pure (i := 5) (v := ?_) rfl (by kernel_rfl) (by kernel_rfl) (by kernel_rfl) (fun _ _ _ _ _ h => h) (fun _ _ _ _ _ h => h) (by rfl) ?_ ?_); rotate_left; (focus (intro w' hS; (try dsimp only at hS); obtain ⟨⟨b0, b1, b2, b3, b4, b5⟩, b6, b7, b8, b9, b10, b11⟩ := line_cells hS.2; go_simp; (with_reducible rfl))); (try simp only [Act.put, List.setIfInBounds_toArray, List.set_cons_zero, List.set_cons_succ]); (refine wpU_pure (i := 6) (v := ?_) rfl (by kernel_rfl) (by kernel_rfl) (by kernel_rfl) (fun _ _ _ _ _ h => h) (fun _ _ _ _ _ h => h) (by rfl) ?_ ?_); rotate_left; (focus (intro w' hS; (try dsimp only at hS); obtain ⟨⟨b0, b1, b2, b3, b4, b5⟩, b6, b7, b8, b9, b10, b11⟩ := line_cells hS.2; go_simp; (with_reducible rfl))); (try simp only [Act.put, List.setIfInBounds_toArray, List.set_cons_zero, List.set_cons_succ])
    (refine wpU_call (i := 7) (f := ?_) (args := ?_) (v := .string Ns) rfl (by kernel_rfl) (by kernel_rfl) (by kernel_rfl) (fun _ _ _ _ _ h => h) (fun _ _ _ _ _ h => h) (by rfl) ?_ ?_ ?_); rotate_left 2; (focus (intro w' hS; (try dsimp only at hS); skip; go_simp; (apply And.intro <;> with_reducible rfl))); (focus (intro w' hS; (try dsimp only at hS); with_reducible exact (HNs.out w').mono fun e w4 ⟨he, hb⟩ => ⟨he, below_then hS.1 hS.1.size hb, blk_below hS.2 hb⟩)); (try simp only [Act.put, List.setIfInBounds_toArray, List.set_cons_zero, List.set_cons_succ])
    (refine wpU_pure (i := 8) (v := ?_) rfl (by kernel_rfl) (by kernel_rfl) (by kernel_rfl) (fun _ _ _ _ _ h => h) (fun _ _ _ _ _ h => h) (by rfl) ?_ ?_); rotate_left; (focus (intro w' hS; (try dsimp only at hS); obtain ⟨⟨b0, b1, b2, b3, b4, b5⟩, b6, b7, b8, b9, b10, b11⟩ := line_cells hS.2; go_simp; (with_reducible rfl))); (try simp only [Act.put, List.setIfInBounds_toArray, List.set_cons_zero, List.set_cons_succ]); (refine wpU_pure (i := 9) (v := ?_) rfl (by kernel_rfl) (by kernel_rfl) (by kernel_rfl) (fun _ _ _ _ _ h => h) (fun _ _ _ _ _ h => h) (by rfl) ?_ ?_); rotate_left; (focus (intro w' hS; (try dsimp only at hS); obtain ⟨⟨b0, b1, b2, b3, b4, b5⟩, b6, b7, b8, b9, b10, b11⟩ := line_cells hS.2; go_simp; (with_reducible rfl))); (try simp only [Act.put, List.setIfInBounds_toArray, List.set_cons_zero, List.set_cons_succ]); (refine wpU_pure (i := 10) (v := ?_) rfl (by kernel_rfl) (by kernel_rfl) (by kernel_rfl) (fun _ _ _ _ _ h => h) (fun _ _ _ _ _ h => h) (by rfl) ?_ ?_); rotate_left; (focus (intro w' hS; (try dsimp only at hS); obtain ⟨⟨b0, b1, b2, b3, b4, b5⟩, b6, b7, b8, b9, b10, b11⟩ := line_cells hS.2; go_simp; (with_reducible rfl))); (try simp only [Act.put, List.setIfInBounds_toArray, List.set_cons_zero, List.set_cons_succ]); (refine wpU_pure (i := 11) (v := ?_) rfl (by kernel_rfl) (by kernel_rfl) (by kernel_rfl) (fun _ _ _ _ _ h => h) (fun _ _ _ _ _ h => h) (by rfl) ?_ ?_); rotate_left; (focus (intro w' hS; (try dsimp only at hS); obtain ⟨⟨b0, b1, b2, b3, b4, b5⟩, b6, b7, b8, b9, b10, b11⟩ := line_cells hS.2; go_simp; (with_reducible rfl))); (try simp only [Act.put, List.setIfInBounds_toArray, List.set_cons_zero, List.set_cons_succ]); (refine wpU_pure (i := 12) (v := ?_) rfl (by kernel_rfl) (by kernel_rfl) (by kernel_rfl) (fun _ _ _ _ _ h => h) (fun _ _ _ _ _ h => h) (by rfl) ?_ ?_); rotate_left; (focus (intro w' hS; (try dsimp only at hS); obtain ⟨⟨b0, b1, b2, b3, b4, b5⟩, b6, b7, b8, b9, b10, b11⟩ := line_cells hS.2; go_simp; (with_reducible rfl))); (try simp only [Act.put, List.setIfInBounds_toArray, List.set_cons_zero, List.set_cons_succ])
    (refine wpU_call (i := 13) (f := ?_) (args := ?_) (v := .string T) rfl (by kernel_rfl) (by kernel_rfl) (by kernel_rfl) (fun _ _ _ _ _ h => h) (fun _ _ _ _ _ h => h) (by rfl) ?_ ?_ ?_); rotate_left 2; (focus (intro w' hS; (try dsimp only at hS); skip; go_simp; (apply And.intro <;> with_reducible rfl))); (focus (intro w' hS; (try dsimp only at hS); exact (HTX.out w').mono fun e w4 ⟨he, hw⟩ => ⟨he, hw ▸ hS⟩)); (try simp only [Act.put, List.setIfInBounds_toArray, List.set_cons_zero, List.set_cons_succ])
    (refine wpU_pure (i := 14) (v := ?_) rfl (by kernel_rfl) (by kernel_rfl) (by kernel_rfl) (fun _ _ _ _ _ h => h) (fun _ _ _ _ _ h => h) (by rfl) ?_ ?_); rotate_left; (focus (intro w' hS; (try dsimp only at hS); skip; go_simp; (with_reducible rfl))); (try simp only [Act.put, List.setIfInBounds_toArray, List.set_cons_zero, List.set_cons_succ]); (refine wpU_pure (i := 15) (v := ?_) rfl (by kernel_rfl) (by kernel_rfl) (by kernel_rfl) (fun _ _ _ _ _ h => h) (fun _ _ _ _ _ h => h) (by rfl) ?_ ?_); rotate_left; (focus (intro w' hS; (try dsimp only at hS); skip; go_simp; (with_reducible rfl))); (try simp only [Act.put, List.setIfInBounds_toArray, List.set_cons_zero, List.set_cons_succ])
    (refine wpU_done (by kernel_rfl) ?_ _)
    rintro w5 ⟨hB5, hX5⟩
    have HB := Lk.mk hB5
    clear hB5 hX5
    go_wp2
    go_ret
    exact ⟨by rw [HZ2.out]; rfl, HB.out⟩
  rcases hks with hks | hks
  · subst hks
    have hj : j = 8 := by have := HK.out; omega
    subst hj
    obtain ⟨a0, a1, a2, rfl⟩ : ∃ a0 a1 a2, l = [a0, a1, a2] := by
      have h := H9.out rfl
      match l, h with
      | [a0, a1, a2], _ => exact ⟨a0, a1, a2, rfl⟩
    have HNa0 := Lk.mk (HNA.out a0 (by simp))
    have za0 := HZA.out a0 (by simp)
    obtain ⟨Na0, hNa0⟩ : ∃ N, N = sp a0 := ⟨_, rfl⟩
    rw [← hNa0] at HNa0 za0
    have HQa0 := Lk.mk hNa0
    clear hNa0
    have HNa1 := Lk.mk (HNA.out a1 (by simp))
    have za1 := HZA.out a1 (by simp)
    obtain ⟨Na1, hNa1⟩ : ∃ N, N = sp a1 := ⟨_, rfl⟩
    rw [← hNa1] at HNa1 za1
    have HQa1 := Lk.mk hNa1
    clear hNa1
    have HNa2 := Lk.mk (HNA.out a2 (by simp))
    have za2 := HZA.out a2 (by simp)
    obtain ⟨Na2, hNa2⟩ : ∃ N, N = sp a2 := ⟨_, rfl⟩
    rw [← hNa2] at HNa2 za2
    have HQa2 := Lk.mk hNa2
    clear hNa2
    have HZ2 := Lk.mk (show Z = U ++ Np ++ Ng ++ No ++ Nd ++ Na0 ++ Na1 ++ Na2 by
      obtain ⟨e1, e2, e3, e4, e5, e6, e7, e8⟩ := HN.out
      rw [HZ.out, HU.out, e1, e2, e6, e4, HQa0.out, HQa1.out, HQa2.out]
      rw [show lineW 9 p g f d s v0 v1 v2 v3 o [a0, a1, a2] = fW 8 :: ([dec p, dec g, dec o, dec d, dec a0, dec a1, dec a2]) from rfl, joinW_cons]
      simp only [joinT, sp, bapp, bnil])
    obtain ⟨y0, y1, y2, y3, y4, y5, y6, y7, y8⟩ := HZS.out
    have hc1 : ¬ 9223372036854775807 < U.size + Np.size + Ng.size := by omega
    have hc2 : ¬ 9223372036854775807 < U.size + Np.size + Ng.size + No.size := by omega
    have hc3 : ¬ 9223372036854775807 < U.size + Np.size + Ng.size + No.size + Nd.size := by omega
    have hc4 : ¬ 9223372036854775807 < U.size + Np.size + Ng.size + No.size + Nd.size + Na0.size := by omega
    have hc5 : ¬ 9223372036854775807 < U.size + Np.size + Ng.size + No.size + Nd.size + Na0.size + Na1.size := by omega
    have hc6 : ¬ 9223372036854775807 < U.size + Np.size + Ng.size + No.size + Nd.size + Na0.size + Na1.size + Na2.size := by omega
    clear y0 y1 y2 y3 y4 y5 y6 y7 y8 za0 za1 za2
    have how := HIO.out
    simp only [List.length_cons, List.length_nil] at *
    obtain ⟨ad, rfl, hcc⟩ := HR.out.2.2 (by simp)
    have hc0q := Lk.mk (show w.cell? ad = some (.int .i64 (a0 : Int)) from hcc 0 (by simp))
    have hc1q := Lk.mk (show w.cell? (ad.add 1) = some (.int .i64 (a1 : Int)) from hcc 1 (by simp))
    have hc2q := Lk.mk (show w.cell? (ad.add 2) = some (.int .i64 (a2 : Int)) from hcc 2 (by simp))
    clear hcc
    have HI := Lk.mk (show ∀ W : World, Calls Tryd.prog 31 #[.int .u8 9, .slice (some ⟨W.heap.size, 0, none⟩) 4 4] (W.alloc (.cells #[.int .u8 1, .int .u8 11, .int .u8 12, .int .u8 13] 5)) fun e w' => e = .returned (.bool false) ∧ w' = W.alloc (.cells #[.int .u8 1, .int .u8 11, .int .u8 12, .int .u8 13] 5) from fun W => rin_lit 9 [1, 11, 12, 13] false W _ rfl (by decide) (by decide))
    go_wp2_with (first
      | (go_at_call 31; (with_reducible refine (HI.out _).mono ?_); rintro e w3 ⟨rfl, hw⟩; have HB := Lk.mk (show Below w.heap.size w w3 by rw [hw]; exact below_alloc HB.out _); have HX := Lk.mk (show w3.heap[w.heap.size]? = some (.cells #[.int .u8 9, .int .i64 (p : Int), .int .i64 (g : Int), .int .i64 (f : Int), .int .i64 (d : Int), .int .i64 (s : Int), .int .u8 v0, .int .u64 (v1 : Int), .int .i64 (v2 : Int), .int .i64 (v3 : Int), .int .u8 (o : Int), .slice (some ad) 3 c] 46 (0, 0)) by rw [hw]; exact blk_alloc HX.out _); obtain ⟨⟨b0, b1, b2, b3, b4, b5⟩, b6, b7, b8, b9, b10, b11⟩ := line_cells HX.out; clear hw)
      | (go_at_call 35; (with_reducible refine (HNg.out _).mono ?_); rintro e w3 ⟨rfl, hb⟩; have HB := Lk.mk (below_then HB.out HB.out.size hb); have HX := Lk.mk (show w3.heap[w.heap.size]? = some (.cells #[.int .u8 9, .int .i64 (p : Int), .int .i64 (g : Int), .int .i64 (f : Int), .int .i64 (d : Int), .int .i64 (s : Int), .int .u8 v0, .int .u64 (v1 : Int), .int .i64 (v2 : Int), .int .i64 (v3 : Int), .int .u8 (o : Int), .slice (some ad) 3 c] 46 (0, 0)) from blk_below HX.out hb); obtain ⟨⟨b0, b1, b2, b3, b4, b5⟩, b6, b7, b8, b9, b10, b11⟩ := line_cells HX.out; clear hb))
    clear b0 b1 b2 b3 b4 b5 b6 b7 b8 b9 b10 b11
    (refine wpU_begin (fun W => Below w.heap.size w W ∧ W.heap[w.heap.size]? = some (.cells #[.int .u8 9, .int .i64 (p : Int), .int .i64 (g : Int), .int .i64 (f : Int), .int .i64 (d : Int), .int .i64 (s : Int), .int .u8 v0, .int .u64 (v1 : Int), .int .i64 (v2 : Int), .int .i64 (v3 : Int), .int .u8 (o : Int), .slice (some ad) 3 c] 46 (0, 0))) (by kernel_rfl) ⟨below_drew1 HB.out, blk_drew HX.out⟩ ?_)
    (refine wpU_pure (i := 0) (v := ?_) rfl (by kernel_rfl) (by kernel_rfl) (by kernel_rfl) (fun _ _ _ _ _ h => h) (fun _ _ _ _ _ h => h) (by rfl) ?_ ?_); rotate_left; (focus (intro w' hS; (try dsimp only at hS); obtain ⟨⟨b0, b1, b2, b3, b4, b5⟩, b6, b7, b8, b9, b10, b11⟩ := line_cells hS.2; have r0 : w'.cell? ad = some (.int .i64 (a0 : Int)) := pw_cell_below hS.1 hc0q.out; have r1 : w'.cell? (ad.add 1) = some (.int .i64 (a1 : Int)) := pw_cell_below hS.1 hc1q.out; have r2 : w'.cell? (ad.add 2) = some (.int .i64 (a2 : Int)) := pw_cell_below hS.1 hc2q.out; have r1b : w'.cell? ⟨ad.block, ad.off + 1, none⟩ = some (.int .i64 (a1 : Int)) := r1; have r2b : w'.cell? ⟨ad.block, ad.off + 2, none⟩ = some (.int .i64 (a2 : Int)) := r2; go_simp; (with_reducible rfl))); (try simp only [Act.put, List.setIfInBounds_toArray, List.set_cons_zero, List.set_cons_succ]); (refine wpU_pure (i := 1) (v := ?_) rfl (by kernel_rfl) (by kernel_rfl) (by kernel_rfl) (fun _ _ _ _ _ h => h) (fun _ _ _ _ _ h => h) (by rfl) ?_ ?_); rotate_left; (focus (intro w' hS; (try dsimp only at hS); obtain ⟨⟨b0, b1, b2, b3, b4, b5⟩, b6, b7, b8, b9, b10, b11⟩ := line_cells hS.2; have r0 : w'.cell? ad = some (.int .i64 (a0 : Int)) := pw_cell_below hS.1 hc0q.out; have r1 : w'.cell? (ad.add 1) = some (.int .i64 (a1 : Int)) := pw_cell_below hS.1 hc1q.out; have r2 : w'.cell? (ad.add 2) = some (.int .i64 (a2 : Int)) := pw_cell_below hS.1 hc2q.out; have r1b : w'.cell? ⟨ad.block, ad.off + 1, none⟩ = some (.int .i64 (a1 : Int)) := r1; have r2b : w'.cell? ⟨ad.block, ad.off + 2, none⟩ = some (.int .i64 (a2 : Int)) := r2; go_simp; (with_reducible rfl))); (try simp only [Act.put, List.setIfInBounds_toArray, List.set_cons_zero, List.set_cons_succ]); (refine wpU_pure (i := 2) (v := ?_) rfl (by kernel_rfl) (by kernel_rfl) (by kernel_rfl) (fun _ _ _ _ _ h => h) (fun _ _ _ _ _ h => h) (by rfl) ?_ ?_); rotate_left; (focus (intro w' hS; (try dsimp only at hS); obtain ⟨⟨b0, b1, b2, b3, b4, b5⟩, b6, b7, b8, b9, b10, b11⟩ := line_cells hS.2; have r0 : w'.cell? ad = some (.int .i64 (a0 : Int)) := pw_cell_below hS.1 hc0q.out; have r1 : w'.cell? (ad.add 1) = some (.int .i64 (a1 : Int)) := pw_cell_below hS.1 hc1q.out; have r2 : w'.cell? (ad.add 2) = some (.int .i64 (a2 : Int)) := pw_cell_below hS.1 hc2q.out; have r1b : w'.cell? ⟨ad.block, ad.off + 1, none⟩ = some (.int .i64 (a1 : Int)) := r1; have r2b : w'.cell? ⟨ad.block, ad.off + 2, none⟩ = some (.int .i64 (a2 : Int)) := r2; go_simp; (with_reducible rfl))); (try simp only [Act.put, List.setIfInBounds_toArray, List.set_cons_zero, List.set_cons_succ]); (refine wpU_pure (i := 3) (v := ?_) rfl (by kernel_rfl) (by kernel_rfl) (by kernel_rfl) (fun _ _ _ _ _ h => h) (fun _ _ _ _ _ h => h) (by rfl) ?_ ?_); rotate_left; (focus (intro w' hS; (try dsimp only at hS); obtain ⟨⟨b0, b1, b2, b3, b4, b5⟩, b6, b7, b8, b9, b10, b11⟩ := line_cells hS.2; have r0 : w'.cell? ad = some (.int .i64 (a0 : Int)) := pw_cell_below hS.1 hc0q.out; have r1 : w'.cell? (ad.add 1) = some (.int .i64 (a1 : Int)) := pw_cell_below hS.1 hc1q.out; have r2 : w'.cell? (ad.add 2) = some (.int .i64 (a2 : Int)) := pw_cell_below hS.1 hc2q.out; have r1b : w'.cell? ⟨ad.block, ad.off + 1, none⟩ = some (.int .i64 (a1 : Int)) := r1; have r2b : w'.cell? ⟨ad.block, ad.off + 2, none⟩ = some (.int .i64 (a2 : Int)) := r2; go_simp; (with_reducible rfl))); (try simp only [Act.put, List.setIfInBounds_toArray, List.set_cons_zero, List.set_cons_succ])
    (refine wpU_call (i := 4) (f := ?_) (args := ?_) (v := .string No) rfl (by kernel_rfl) (by kernel_rfl) (by kernel_rfl) (fun _ _ _ _ _ h => h) (fun _ _ _ _ _ h => h) (by rfl) ?_ ?_ ?_); rotate_left 2; (focus (intro w' hS; (try dsimp only at hS); skip; go_simp; (apply And.intro <;> with_reducible rfl))); (focus (intro w' hS; (try dsimp only at hS); with_reducible exact (HNo.out w').mono fun e w4 ⟨he, hb⟩ => ⟨he, below_then hS.1 hS.1.size hb, blk_below hS.2 hb⟩)); (try simp only [Act.put, List.setIfInBounds_toArray, List.set_cons_zero, List.set_cons_succ])
    (refine wpU_pure (i := 5) (v := ?_) rfl (by kernel_rfl) (by kernel_rfl) (by kernel_rfl) (fun _ _ _ _ _ h => h) (fun _ _ _ _ _ h => h) (by rfl) ?_ ?_); rotate_left; (focus (intro w' hS; (try dsimp only at hS); obtain ⟨⟨b0, b1, b2, b3, b4, b5⟩, b6, b7, b8, b9, b10, b11⟩ := line_cells hS.2; have r0 : w'.cell? ad = some (.int .i64 (a0 : Int)) := pw_cell_below hS.1 hc0q.out; have r1 : w'.cell? (ad.add 1) = some (.int .i64 (a1 : Int)) := pw_cell_below hS.1 hc1q.out; have r2 : w'.cell? (ad.add 2) = some (.int .i64 (a2 : Int)) := pw_cell_below hS.1 hc2q.out; have r1b : w'.cell? ⟨ad.block, ad.off + 1, none⟩ = some (.int .i64 (a1 : Int)) := r1; have r2b : w'.cell? ⟨ad.block, ad.off + 2, none⟩ = some (.int .i64 (a2 : Int)) := r2; go_simp; (with_reducible rfl))); (try simp only [Act.put, List.setIfInBounds_toArray, List.set_cons_zero, List.set_cons_succ]); (refine wpU_pure (i := 6) (v := ?_) rfl (by kernel_rfl) (by kernel_rfl) (by kernel_rfl) (fun _ _ _ _ _ h => h) (fun _ _ _ _ _ h => h) (by rfl) ?_ ?_); rotate_left; (focus (intro w' hS; (try dsimp only at hS); obtain ⟨⟨b0, b1, b2, b3, b4, b5⟩, b6, b7, b8, b9, b10, b11⟩ := line_cells hS.2; have r0 : w'.cell? ad = some (.int .i64 (a0 : Int)) := pw_cell_below hS.1 hc0q.out; have r1 : w'.cell? (ad.add 1) = some (.int .i64 (a1 : Int)) := pw_cell_below hS.1 hc1q.out; have r2 : w'.cell? (ad.add 2) = some (.int .i64 (a2 : Int)) := pw_cell_below hS.1 hc2q.out; have r1b : w'.cell? ⟨ad.block, ad.off + 1, none⟩ = some (.int .i64 (a1 : Int)) := r1; have r2b : w'.cell? ⟨ad.block, ad.off + 2, none⟩ = some (.int .i64 (a2 : Int)) := r2; go_simp; (with_reducible rfl))); (try simp only [Act.put, List.setIfInBounds_toArray, List.set_cons_zero, List.set_cons_succ]); (refine wpU_pure (i := 7) (v := ?_) rfl (by kernel_rfl) (by kernel_rfl) (by kernel_rfl) (fun _ _ _ _ _ h => h) (fun _ _ _ _ _ h => h) (by rfl) ?_ ?_); rotate_left; (focus (intro w' hS; (try dsimp only at hS); obtain ⟨⟨b0, b1, b2, b3, b4, b5⟩, b6, b7, b8, b9, b10, b11⟩ := line_cells hS.2; have r0 : w'.cell? ad = some (.int .i64 (a0 : Int)) := pw_cell_below hS.1 hc0q.out; have r1 : w'.cell? (ad.add 1) = some (.int .i64 (a1 : Int)) := pw_cell_below hS.1 hc1q.out; have r2 : w'.cell? (ad.add 2) = some (.int .i64 (a2 : Int)) := pw_cell_below hS.1 hc2q.out; have r1b : w'.cell? ⟨ad.block, ad.off + 1, none⟩ = some (.int .i64 (a1 : Int)) := r1; have r2b : w'.cell? ⟨ad.block, ad.off + 2, none⟩ = some (.int .i64 (a2 : Int)) := r2; go_simp; (with_reducible rfl))); (try simp only [Act.put, List.setIfInBounds_toArray, List.set_cons_zero, List.set_cons_succ])
    (refine wpU_call (i := 8) (f := ?_) (args := ?_) (v := .string Nd) rfl (by kernel_rfl) (by kernel_rfl) (by kernel_rfl) (fun _ _ _ _ _ h => h) (fun _ _ _ _ _ h => h) (by rfl) ?_ ?_ ?_); rotate_left 2; (focus (intro w' hS; (try dsimp only at hS); skip; go_simp; (apply And.intro <;> with_reducible rfl))); (focus (intro w' hS; (try dsimp only at hS); with_reducible exact (HNd.out w').mono fun e w4 ⟨he, hb⟩ => ⟨he, below_then hS.1 hS.1.size hb, blk_below hS.2 hb⟩)); (try simp only [Act.put, List.setIfInBounds_toArray, List.set_cons_zero, List.set_cons_succ])
    (refine wpU_pure (i := 9) (v := ?_) rfl (by kernel_rfl) (by kernel_rfl) (by kernel_rfl) (fun _ _ _ _ _ h => h) (fun _ _ _ _ _ h => h) (by rfl) ?_ ?_); rotate_left; (focus (intro w' hS; (try dsimp only at hS); obtain ⟨⟨b0, b1, b2, b3, b4, b5⟩, b6, b7, b8, b9, b10, b11⟩ := line_cells hS.2; have r0 : w'.cell? ad = some (.int .i64 (a0 : Int)) := pw_cell_below hS.1 hc0q.out; have r1 : w'.cell? (ad.add 1) = some (.int .i64 (a1 : Int)) := pw_cell_below hS.1 hc1q.out; have r2 : w'.cell? (ad.add 2) = some (.int .i64 (a2 : Int)) := pw_cell_below hS.1 hc2q.out; have r1b : w'.cell? ⟨ad.block, ad.off + 1, none⟩ = some (.int .i64 (a1 : Int)) := r1; have r2b : w'.cell? ⟨ad.block, ad.off + 2, none⟩ = some (.int .i64 (a2 : Int)) := r2; go_simp; (with_reducible rfl))); (try simp only [Act.put, List.setIfInBounds_toArray, List.set_cons_zero, List.set_cons_succ]); (refine wpU_pure (i := 10) (v := ?_) rfl (by kernel_rfl) (by kernel_rfl) (by kernel_rfl) (fun _ _ _ _ _ h => h) (fun _ _ _ _ _ h => h) (by rfl) ?_ ?_); rotate_left; (focus (intro w' hS; (try dsimp only at hS); obtain ⟨⟨b0, b1, b2, b3, b4, b5⟩, b6, b7, b8, b9, b10, b11⟩ := line_cells hS.2; have r0 : w'.cell? ad = some (.int .i64 (a0 : Int)) := pw_cell_below hS.1 hc0q.out; have r1 : w'.cell? (ad.add 1) = some (.int .i64 (a1 : Int)) := pw_cell_below hS.1 hc1q.out; have r2 : w'.cell? (ad.add 2) = some (.int .i64 (a2 : Int)) := pw_cell_below hS.1 hc2q.out; have r1b : w'.cell? ⟨ad.block, ad.off + 1, none⟩ = some (.int .i64 (a1 : Int)) := r1; have r2b : w'.cell? ⟨ad.block, ad.off + 2, none⟩ = some (.int .i64 (a2 : Int)) := r2; go_simp; (with_reducible rfl))); (try simp only [Act.put, List.setIfInBounds_toArray, List.set_cons_zero, List.set_cons_succ]); (refine wpU_pure (i := 11) (v := ?_) rfl (by kernel_rfl) (by kernel_rfl) (by kernel_rfl) (fun _ _ _ _ _ h => h) (fun _ _ _ _ _ h => h) (by rfl) ?_ ?_); rotate_left; (focus (intro w' hS; (try dsimp only at hS); obtain ⟨⟨b0, b1, b2, b3, b4, b5⟩, b6, b7, b8, b9, b10, b11⟩ := line_cells hS.2; have r0 : w'.cell? ad = some (.int .i64 (a0 : Int)) := pw_cell_below hS.1 hc0q.out; have r1 : w'.cell? (ad.add 1) = some (.int .i64 (a1 : Int)) := pw_cell_below hS.1 hc1q.out; have r2 : w'.cell? (ad.add 2) = some (.int .i64 (a2 : Int)) := pw_cell_below hS.1 hc2q.out; have r1b : w'.cell? ⟨ad.block, ad.off + 1, none⟩ = some (.int .i64 (a1 : Int)) := r1; have r2b : w'.cell? ⟨ad.block, ad.off + 2, none⟩ = some (.int .i64 (a2 : Int)) := r2; go_simp; (with_reducible rfl))); (try simp only [Act.put, List.setIfInBounds_toArray, List.set_cons_zero, List.set_cons_succ]); (refine wpU_pure (i := 12) (v := ?_) rfl (by kernel_rfl) (by kernel_rfl) (by kernel_rfl) (fun _ _ _ _ _ h => h) (fun _ _ _ _ _ h => h) (by rfl) ?_ ?_); rotate_left; (focus (intro w' hS; (try dsimp only at hS); obtain ⟨⟨b0, b1, b2, b3, b4, b5⟩, b6, b7, b8, b9, b10, b11⟩ := line_cells hS.2; have r0 : w'.cell? ad = some (.int .i64 (a0 : Int)) := pw_cell_below hS.1 hc0q.out; have r1 : w'.cell? (ad.add 1) = some (.int .i64 (a1 : Int)) := pw_cell_below hS.1 hc1q.out; have r2 : w'.cell? (ad.add 2) = some (.int .i64 (a2 : Int)) := pw_cell_below hS.1 hc2q.out; have r1b : w'.cell? ⟨ad.block, ad.off + 1, none⟩ = some (.int .i64 (a1 : Int)) := r1; have r2b : w'.cell? ⟨ad.block, ad.off + 2, none⟩ = some (.int .i64 (a2 : Int)) := r2; go_simp; (with_reducible rfl))); (try simp only [Act.put, List.setIfInBounds_toArray, List.set_cons_zero, List.set_cons_succ]); (refine wpU_pure (i := 13) (v := ?_) rfl (by kernel_rfl) (by kernel_rfl) (by kernel_rfl) (fun _ _ _ _ _ h => h) (fun _ _ _ _ _ h => h) (by rfl) ?_ ?_); rotate_left; (focus (intro w' hS; (try dsimp only at hS); obtain ⟨⟨b0, b1, b2, b3, b4, b5⟩, b6, b7, b8, b9, b10, b11⟩ := line_cells hS.2; have r0 : w'.cell? ad = some (.int .i64 (a0 : Int)) := pw_cell_below hS.1 hc0q.out; have r1 : w'.cell? (ad.add 1) = some (.int .i64 (a1 : Int)) := pw_cell_below hS.1 hc1q.out; have r2 : w'.cell? (ad.add 2) = some (.int .i64 (a2 : Int)) := pw_cell_below hS.1 hc2q.out; have r1b : w'.cell? ⟨ad.block, ad.off + 1, none⟩ = some (.int .i64 (a1 : Int)) := r1; have r2b : w'.cell? ⟨ad.block, ad.off + 2, none⟩ = some (.int .i64 (a2 : Int)) := r2; go_simp; (with_reducible rfl))); (try simp only [Act.put, List.setIfInBounds_toArray, List.set_cons_zero, List.set_cons_succ])
    (refine wpU_call (i := 14) (f := ?_) (args := ?_) (v := .string Na0) rfl (by kernel_rfl) (by kernel_rfl) (by kernel_rfl) (fun _ _ _ _ _ h => h) (fun _ _ _ _ _ h => h) (by rfl) ?_ ?_ ?_); rotate_left 2; (focus (intro w' hS; (try dsimp only at hS); skip; go_simp; (apply And.intro <;> with_reducible rfl))); (focus (intro w' hS; (try dsimp only at hS); with_reducible exact (HNa0.out w').mono fun e w4 ⟨he, hb⟩ => ⟨he, below_then hS.1 hS.1.size hb, blk_below hS.2 hb⟩)); (try simp only [Act.put, List.setIfInBounds_toArray, List.set_cons_zero, List.set_cons_succ])
    (refine wpU_pure (i := 15) (v := ?_) rfl (by kernel_rfl) (by kernel_rfl) (by kernel_rfl) (fun _ _ _ _ _ h => h) (fun _ _ _ _ _ h => h) (by rfl) ?_ ?_); rotate_left; (focus (intro w' hS; (try dsimp only at hS); obtain ⟨⟨b0, b1, b2, b3, b4, b5⟩, b6, b7, b8, b9, b10, b11⟩ := line_cells hS.2; have r0 : w'.cell? ad = some (.int .i64 (a0 : Int)) := pw_cell_below hS.1 hc0q.out; have r1 : w'.cell? (ad.add 1) = some (.int .i64 (a1 : Int)) := pw_cell_below hS.1 hc1q.out; have r2 : w'.cell? (ad.add 2) = some (.int .i64 (a2 : Int)) := pw_cell_below hS.1 hc2q.out; have r1b : w'.cell? ⟨ad.block, ad.off + 1, none⟩ = some (.int .i64 (a1 : Int)) := r1; have r2b : w'.cell? ⟨ad.block, ad.off + 2, none⟩ = some (.int .i64 (a2 : Int)) := r2; go_simp; (with_reducible rfl))); (try simp only [Act.put, List.setIfInBounds_toArray, List.set_cons_zero, List.set_cons_succ]); (refine wpU_pure (i := 16) (v := ?_) rfl (by kernel_rfl) (by kernel_rfl) (by kernel_rfl) (fun _ _ _ _ _ h => h) (fun _ _ _ _ _ h => h) (by rfl) ?_ ?_); rotate_left; (focus (intro w' hS; (try dsimp only at hS); obtain ⟨⟨b0, b1, b2, b3, b4, b5⟩, b6, b7, b8, b9, b10, b11⟩ := line_cells hS.2; have r0 : w'.cell? ad = some (.int .i64 (a0 : Int)) := pw_cell_below hS.1 hc0q.out; have r1 : w'.cell? (ad.add 1) = some (.int .i64 (a1 : Int)) := pw_cell_below hS.1 hc1q.out; have r2 : w'.cell? (ad.add 2) = some (.int .i64 (a2 : Int)) := pw_cell_below hS.1 hc2q.out; have r1b : w'.cell? ⟨ad.block, ad.off + 1, none⟩ = some (.int .i64 (a1 : Int)) := r1; have r2b : w'.cell? ⟨ad.block, ad.off + 2, none⟩ = some (.int .i64 (a2 : Int)) := r2; go_simp; (with_reducible rfl))); (try simp only [Act.put, List.setIfInBounds_toArray, List.set_cons_zero, List.set_cons_succ]); (refine wpU_pure (i := 17) (v := ?_) rfl (by kernel_rfl) (by kernel_rfl) (by kernel_rfl) (fun _ _ _ _ _ h => h) (fun _ _ _ _ _ h => h) (by rfl) ?_ ?_); rotate_left; (focus (intro w' hS; (try dsimp only at hS); obtain ⟨⟨b0, b1, b2, b3, b4, b5⟩, b6, b7, b8, b9, b10, b11⟩ := line_cells hS.2; have r0 : w'.cell? ad = some (.int .i64 (a0 : Int)) := pw_cell_below hS.1 hc0q.out; have r1 : w'.cell? (ad.add 1) = some (.int .i64 (a1 : Int)) := pw_cell_below hS.1 hc1q.out; have r2 : w'.cell? (ad.add 2) = some (.int .i64 (a2 : Int)) := pw_cell_below hS.1 hc2q.out; have r1b : w'.cell? ⟨ad.block, ad.off + 1, none⟩ = some (.int .i64 (a1 : Int)) := r1; have r2b : w'.cell? ⟨ad.block, ad.off + 2, none⟩ = some (.int .i64 (a2 : Int)) := r2; go_simp; (with_reducible rfl))); (try simp only [Act.put, List.setIfInBounds_toArray, List.set_cons_zero, List.set_cons_succ]); (refine wpU_pure (i := 18) (v := ?_) rfl (by kernel_rfl) (by kernel_rfl) (by kernel_rfl) (fun _ _ _ _ _ h => h) (fun _ _ _ _ _ h => h) (by rfl) ?_ ?_); rotate_left; (focus (intro w' hS; (try dsimp only at hS); obtain ⟨⟨b0, b1, b2, b3, b4, b5⟩, b6, b7, b8, b9, b10, b11⟩ := line_cells hS.2; have r0 : w'.cell? ad = some (.int .i64 (a0 : Int)) := pw_cell_below hS.1 hc0q.out; have r1 : w'.cell? (ad.add 1) = some (.int .i64 (a1 : Int)) := pw_cell_below hS.1 hc1q.out; have r2 : w'.cell? (ad.add 2) = some (.int .i64 (a2 : Int)) := pw_cell_below hS.1 hc2q.out; have r1b : w'.cell? ⟨ad.block, ad.off + 1, none⟩ = some (.int .i64 (a1 : Int)) := r1; have r2b : w'.cell? ⟨ad.block, ad.off + 2, none⟩ = some (.int .i64 (a2 : Int)) := r2; go_simp; (with_reducible rfl))); (try simp only [Act.put, List.setIfInBounds_toArray, List.set_cons_zero, List.set_cons_succ]); (refine wpU_pure (i := 19) (v := ?_) rfl (by kernel_rfl) (by kernel_rfl) (by kernel_rfl) (fun _ _ _ _ _ h => h) (fun _ _ _ _ _ h => h) (by rfl) ?_ ?_); rotate_left; (focus (intro w' hS; (try dsimp only at hS); obtain ⟨⟨b0, b1, b2, b3, b4, b5⟩, b6, b7, b8, b9, b10, b11⟩ := line_cells hS.2; have r0 : w'.cell? ad = some (.int .i64 (a0 : Int)) := pw_cell_below hS.1 hc0q.out; have r1 : w'.cell? (ad.add 1) = some (.int .i64 (a1 : Int)) := pw_cell_below hS.1 hc1q.out; have r2 : w'.cell? (ad.add 2) = some (.int .i64 (a2 : Int)) := pw_cell_below hS.1 hc2q.out; have r1b : w'.cell? ⟨ad.block, ad.off + 1, none⟩ = some (.int .i64 (a1 : Int)) := r1; have r2b : w'.cell? ⟨ad.block, ad.off + 2, none⟩ = some (.int .i64 (a2 : Int)) := r2; go_simp; (with_reducible rfl))); (try simp only [Act.put, List.setIfInBounds_toArray, List.set_cons_zero, List.set_cons_succ])
    (refine wpU_call (i := 20) (f := ?_) (args := ?_) (v := .string Na1) rfl (by kernel_rfl) (by kernel_rfl) (by kernel_rfl) (fun _ _ _ _ _ h => h) (fun _ _ _ _ _ h => h) (by rfl) ?_ ?_ ?_); rotate_left 2; (focus (intro w' hS; (try dsimp only at hS); skip; go_simp; (apply And.intro <;> with_reducible rfl))); (focus (intro w' hS; (try dsimp only at hS); with_reducible exact (HNa1.out w').mono fun e w4 ⟨he, hb⟩ => ⟨he, below_then hS.1 hS.1.size hb, blk_below hS.2 hb⟩)); (try simp only [Act.put, List.setIfInBounds_toArray, List.set_cons_zero, List.set_cons_succ])
    (refine wpU_pure (i := 21) (v := ?_) rfl (by kernel_rfl) (by kernel_rfl) (by kernel_rfl) (fun _ _ _ _ _ h => h) (fun _ _ _ _ _ h => h) (by rfl) ?_ ?_); rotate_left; (focus (intro w' hS; (try dsimp only at hS); obtain ⟨⟨b0, b1, b2, b3, b4, b5⟩, b6, b7, b8, b9, b10, b11⟩ := line_cells hS.2; have r0 : w'.cell? ad = some (.int .i64 (a0 : Int)) := pw_cell_below hS.1 hc0q.out; have r1 : w'.cell? (ad.add 1) = some (.int .i64 (a1 : Int)) := pw_cell_below hS.1 hc1q.out; have r2 : w'.cell? (ad.add 2) = some (.int .i64 (a2 : Int)) := pw_cell_below hS.1 hc2q.out; have r1b : w'.cell? ⟨ad.block, ad.off + 1, none⟩ = some (.int .i64 (a1 : Int)) := r1; have r2b : w'.cell? ⟨ad.block, ad.off + 2, none⟩ = some (.int .i64 (a2 : Int)) := r2; go_simp; (with_reducible rfl))); (try simp only [Act.put, List.setIfInBounds_toArray, List.set_cons_zero, List.set_cons_succ]); (refine wpU_pure (i := 22) (v := ?_) rfl (by kernel_rfl) (by kernel_rfl) (by kernel_rfl) (fun _ _ _ _ _ h => h) (fun _ _ _ _ _ h => h) (by rfl) ?_ ?_); rotate_left; (focus (intro w' hS; (try dsimp only at hS); obtain ⟨⟨b0, b1, b2, b3, b4, b5⟩, b6, b7, b8, b9, b10, b11⟩ := line_cells hS.2; have r0 : w'.cell? ad = some (.int .i64 (a0 : Int)) := pw_cell_below hS.1 hc0q.out; have r1 : w'.cell? (ad.add 1) = some (.int .i64 (a1 : Int)) := pw_cell_below hS.1 hc1q.out; have r2 : w'.cell? (ad.add 2) = some (.int .i64 (a2 : Int)) := pw_cell_below hS.1 hc2q.out; have r1b : w'.cell? ⟨ad.block, ad.off + 1, none⟩ = some (.int .i64 (a1 : Int)) := r1; have r2b : w'.cell? ⟨ad.block, ad.off + 2, none⟩ = some (.int .i64 (a2 : Int)) := r2; go_simp; (with_reducible rfl))); (try simp only [Act.put, List.setIfInBounds_toArray, List.set_cons_zero, List.set_cons_succ]); (refine wpU_pure (i := 23) (v := ?_) rfl (by kernel_rfl) (by kernel_rfl) (by kernel_rfl) (fun _ _ _ _ _ h => h) (fun _ _ _ _ _ h => h) (by rfl) ?_ ?_); rotate_left; (focus (intro w' hS; (try dsimp only at hS); obtain ⟨⟨b0, b1, b2, b3, b4, b5⟩, b6, b7, b8, b9, b10, b11⟩ := line_cells hS.2; have r0 : w'.cell? ad = some (.int .i64 (a0 : Int)) := pw_cell_below hS.1 hc0q.out; have r1 : w'.cell? (ad.add 1) = some (.int .i64 (a1 : Int)) := pw_cell_below hS.1 hc1q.out; have r2 : w'.cell? (ad.add 2) = some (.int .i64 (a2 : Int)) := pw_cell_below hS.1 hc2q.out; have r1b : w'.cell? ⟨ad.block, ad.off + 1, none⟩ = some (.int .i64 (a1 : Int)) := r1; have r2b : w'.cell? ⟨ad.block, ad.off + 2, none⟩ = some (.int .i64 (a2 : Int)) := r2; go_simp; (with_reducible rfl))); (try simp only [Act.put, List.setIfInBounds_toArray, List.set_cons_zero, List.set_cons_succ]); (refine wpU_pure (i := 24) (v := ?_) rfl (by kernel_rfl) (by kernel_rfl) (by kernel_rfl) (fun _ _ _ _ _ h => h) (fun _ _ _ _ _ h => h) (by rfl) ?_ ?_); rotate_left; (focus (intro w' hS; (try dsimp only at hS); obtain ⟨⟨b0, b1, b2, b3, b4, b5⟩, b6, b7, b8, b9, b10, b11⟩ := line_cells hS.2; have r0 : w'.cell? ad = some (.int .i64 (a0 : Int)) := pw_cell_below hS.1 hc0q.out; have r1 : w'.cell? (ad.add 1) = some (.int .i64 (a1 : Int)) := pw_cell_below hS.1 hc1q.out; have r2 : w'.cell? (ad.add 2) = some (.int .i64 (a2 : Int)) := pw_cell_below hS.1 hc2q.out; have r1b : w'.cell? ⟨ad.block, ad.off + 1, none⟩ = some (.int .i64 (a1 : Int)) := r1; have r2b : w'.cell? ⟨ad.block, ad.off + 2, none⟩ = some (.int .i64 (a2 : Int)) := r2; go_simp; (with_reducible rfl))); (try simp only [Act.put, List.setIfInBounds_toArray, List.set_cons_zero, List.set_cons_succ]); (refine wpU_pure (i := 25) (v := ?_) rfl (by kernel_rfl) (by kernel_rfl) (by kernel_rfl) (fun _ _ _ _ _ h => h) (fun _ _ _ _ _ h => h) (by rfl) ?_ ?_); rotate_left; (focus (intro w' hS; (try dsimp only at hS); obtain ⟨⟨b0, b1, b2, b3, b4, b5⟩, b6, b7, b8, b9, b10, b11⟩ := line_cells hS.2; have r0 : w'.cell? ad = some (.int .i64 (a0 : Int)) := pw_cell_below hS.1 hc0q.out; have r1 : w'.cell? (ad.add 1) = some (.int .i64 (a1 : Int)) := pw_cell_below hS.1 hc1q.out; have r2 : w'.cell? (ad.add 2) = some (.int .i64 (a2 : Int)) := pw_cell_below hS.1 hc2q.out; have r1b : w'.cell? ⟨ad.block, ad.off + 1, none⟩ = some (.int .i64 (a1 : Int)) := r1; have r2b : w'.cell? ⟨ad.block, ad.off + 2, none⟩ = some (.int .i64 (a2 : Int)) := r2; go_simp; (with_reducible rfl))); (try simp only [Act.put, List.setIfInBounds_toArray, List.set_cons_zero, List.set_cons_succ])
    (refine wpU_call (i := 26) (f := ?_) (args := ?_) (v := .string Na2) rfl (by kernel_rfl) (by kernel_rfl) (by kernel_rfl) (fun _ _ _ _ _ h => h) (fun _ _ _ _ _ h => h) (by rfl) ?_ ?_ ?_); rotate_left 2; (focus (intro w' hS; (try dsimp only at hS); skip; go_simp; (apply And.intro <;> with_reducible rfl))); (focus (intro w' hS; (try dsimp only at hS); with_reducible exact (HNa2.out w').mono fun e w4 ⟨he, hb⟩ => ⟨he, below_then hS.1 hS.1.size hb, blk_below hS.2 hb⟩)); (try simp only [Act.put, List.setIfInBounds_toArray, List.set_cons_zero, List.set_cons_succ])
    (refine wpU_pure (i := 27) (v := ?_) rfl (by kernel_rfl) (by kernel_rfl) (by kernel_rfl) (fun _ _ _ _ _ h => h) (fun _ _ _ _ _ h => h) (by rfl) ?_ ?_); rotate_left; (focus (intro w' hS; (try dsimp only at hS); skip; go_simp; (with_reducible rfl))); (try simp only [Act.put, List.setIfInBounds_toArray, List.set_cons_zero, List.set_cons_succ]); (refine wpU_pure (i := 28) (v := ?_) rfl (by kernel_rfl) (by kernel_rfl) (by kernel_rfl) (fun _ _ _ _ _ h => h) (fun _ _ _ _ _ h => h) (by rfl) ?_ ?_); rotate_left; (focus (intro w' hS; (try dsimp only at hS); skip; go_simp; (with_reducible rfl))); (try simp only [Act.put, List.setIfInBounds_toArray, List.set_cons_zero, List.set_cons_succ])
    (refine wpU_done (by kernel_rfl) ?_ _)
    rintro w5 ⟨hB5, hX5⟩
    have HB := Lk.mk hB5
    clear hB5 hX5
    go_wp2
    go_ret
    exact ⟨by rw [HZ2.out]; rfl, HB.out⟩
  rcases hks with hks | hks
  · subst hks
    have hj : j = 9 := by have := HK.out; omega
    subst hj
    have HZ2 := Lk.mk (show Z = U ++ Np ++ Ng by
      obtain ⟨e1, e2, e3, e4, e5, e6, e7, e8⟩ := HN.out
      rw [HZ.out, HU.out, e1, e2]
      rw [show lineW 10 p g f d s v0 v1 v2 v3 o l = fW 9 :: ([dec p, dec g]) from rfl, joinW_cons]
      simp only [joinT, sp, bapp, bnil])
    obtain ⟨y0, y1, y2, y3, y4, y5, y6, y7, y8⟩ := HZS.out
    have hc1 : ¬ 9223372036854775807 < U.size + Np.size + Ng.size := by omega
    clear y0 y1 y2 y3 y4 y5 y6 y7 y8
    have HI := Lk.mk (show ∀ W : World, Calls Tryd.prog 31 #[.int .u8 10, .slice (some ⟨W.heap.size, 0, none⟩) 4 4] (W.alloc (.cells #[.int .u8 1, .int .u8 11, .int .u8 12, .int .u8 13] 5)) fun e w' => e = .returned (.bool false) ∧ w' = W.alloc (.cells #[.int .u8 1, .int .u8 11, .int .u8 12, .int .u8 13] 5) from fun W => rin_lit 10 [1, 11, 12, 13] false W _ rfl (by decide) (by decide))
    go_wp2_with (first
      | (go_at_call 31; (with_reducible refine (HI.out _).mono ?_); rintro e w3 ⟨rfl, hw⟩; have HB := Lk.mk (show Below w.heap.size w w3 by rw [hw]; exact below_alloc HB.out _); have HX := Lk.mk (show w3.heap[w.heap.size]? = some (.cells #[.int .u8 10, .int .i64 (p : Int), .int .i64 (g : Int), .int .i64 (f : Int), .int .i64 (d : Int), .int .i64 (s : Int), .int .u8 v0, .int .u64 (v1 : Int), .int .i64 (v2 : Int), .int .i64 (v3 : Int), .int .u8 (o : Int), .slice A l.length c] 46 (0, 0)) by rw [hw]; exact blk_alloc HX.out _); obtain ⟨⟨b0, b1, b2, b3, b4, b5⟩, b6, b7, b8, b9, b10, b11⟩ := line_cells HX.out; clear hw)
      | (go_at_call 35; (with_reducible refine (HNg.out _).mono ?_); rintro e w3 ⟨rfl, hb⟩; have HB := Lk.mk (below_then HB.out HB.out.size hb); have HX := Lk.mk (show w3.heap[w.heap.size]? = some (.cells #[.int .u8 10, .int .i64 (p : Int), .int .i64 (g : Int), .int .i64 (f : Int), .int .i64 (d : Int), .int .i64 (s : Int), .int .u8 v0, .int .u64 (v1 : Int), .int .i64 (v2 : Int), .int .i64 (v3 : Int), .int .u8 (o : Int), .slice A l.length c] 46 (0, 0)) from blk_below HX.out hb); obtain ⟨⟨b0, b1, b2, b3, b4, b5⟩, b6, b7, b8, b9, b10, b11⟩ := line_cells HX.out; clear hb))
    go_ret
    exact ⟨by rw [HZ2.out]; rfl, HB.out⟩
  rcases hks with hks | hks
  · subst hks
    have hj : j = 10 := by have := HK.out; omega
    subst hj
    have HZ2 := Lk.mk (show Z = U ++ Np by
      obtain ⟨e1, e2, e3, e4, e5, e6, e7, e8⟩ := HN.out
      rw [HZ.out, HU.out, e1]
      rw [show lineW 11 p g f d s v0 v1 v2 v3 o l = fW 10 :: ([dec p]) from rfl, joinW_cons]
      simp only [joinT, sp, bapp, bnil])
    obtain ⟨y0, y1, y2, y3, y4, y5, y6, y7, y8⟩ := HZS.out
    clear y0 y1 y2 y3 y4 y5 y6 y7 y8
    have HI := Lk.mk (show ∀ W : World, Calls Tryd.prog 31 #[.int .u8 11, .slice (some ⟨W.heap.size, 0, none⟩) 4 4] (W.alloc (.cells #[.int .u8 1, .int .u8 11, .int .u8 12, .int .u8 13] 5)) fun e w' => e = .returned (.bool true) ∧ w' = W.alloc (.cells #[.int .u8 1, .int .u8 11, .int .u8 12, .int .u8 13] 5) from fun W => rin_lit 11 [1, 11, 12, 13] true W _ rfl (by decide) (by decide))
    go_wp2_with (first
      | (go_at_call 31; (with_reducible refine (HI.out _).mono ?_); rintro e w3 ⟨rfl, hw⟩; have HB := Lk.mk (show Below w.heap.size w w3 by rw [hw]; exact below_alloc HB.out _); have HX := Lk.mk (show w3.heap[w.heap.size]? = some (.cells #[.int .u8 11, .int .i64 (p : Int), .int .i64 (g : Int), .int .i64 (f : Int), .int .i64 (d : Int), .int .i64 (s : Int), .int .u8 v0, .int .u64 (v1 : Int), .int .i64 (v2 : Int), .int .i64 (v3 : Int), .int .u8 (o : Int), .slice A l.length c] 46 (0, 0)) by rw [hw]; exact blk_alloc HX.out _); obtain ⟨⟨b0, b1, b2, b3, b4, b5⟩, b6, b7, b8, b9, b10, b11⟩ := line_cells HX.out; clear hw))
    go_ret
    exact ⟨by rw [HZ2.out]; rfl, HB.out⟩
  rcases hks with hks | hks
  · subst hks
    have hj : j = 11 := by have := HK.out; omega
    subst hj
    have HZ2 := Lk.mk (show Z = U ++ Np by
      obtain ⟨e1, e2, e3, e4, e5, e6, e7, e8⟩ := HN.out
      rw [HZ.out, HU.out, e1]
      rw [show lineW 12 p g f d s v0 v1 v2 v3 o l = fW 11 :: ([dec p]) from rfl, joinW_cons]
      simp only [joinT, sp, bapp, bnil])
    obtain ⟨y0, y1, y2, y3, y4, y5, y6, y7, y8⟩ := HZS.out
    clear y0 y1 y2 y3 y4 y5 y6 y7 y8
    have HI := Lk.mk (show ∀ W : World, Calls Tryd.prog 31 #[.int .u8 12, .slice (some ⟨W.heap.size, 0, none⟩) 4 4] (W.alloc (.cells #[.int .u8 1, .int .u8 11, .int .u8 12, .int .u8 13] 5)) fun e w' => e = .returned (.bool true) ∧ w' = W.alloc (.cells #[.int .u8 1, .int .u8 11, .int .u8 12, .int .u8 13] 5) from fun W => rin_lit 12 [1, 11, 12, 13] true W _ rfl (by decide) (by decide))
    go_wp2_with (first
      | (go_at_call 31; (with_reducible refine (HI.out _).mono ?_); rintro e w3 ⟨rfl, hw⟩; have HB := Lk.mk (show Below w.heap.size w w3 by rw [hw]; exact below_alloc HB.out _); have HX := Lk.mk (show w3.heap[w.heap.size]? = some (.cells #[.int .u8 12, .int .i64 (p : Int), .int .i64 (g : Int), .int .i64 (f : Int), .int .i64 (d : Int), .int .i64 (s : Int), .int .u8 v0, .int .u64 (v1 : Int), .int .i64 (v2 : Int), .int .i64 (v3 : Int), .int .u8 (o : Int), .slice A l.length c] 46 (0, 0)) by rw [hw]; exact blk_alloc HX.out _); obtain ⟨⟨b0, b1, b2, b3, b4, b5⟩, b6, b7, b8, b9, b10, b11⟩ := line_cells HX.out; clear hw))
    go_ret
    exact ⟨by rw [HZ2.out]; rfl, HB.out⟩
  · subst hks
    have hj : j = 12 := by have := HK.out; omega
    subst hj
    have HZ2 := Lk.mk (show Z = U ++ Np by
      obtain ⟨e1, e2, e3, e4, e5, e6, e7, e8⟩ := HN.out
      rw [HZ.out, HU.out, e1]
      rw [show lineW 13 p g f d s v0 v1 v2 v3 o l = fW 12 :: ([dec p]) from rfl, joinW_cons]
      simp only [joinT, sp, bapp, bnil])
    obtain ⟨y0, y1, y2, y3, y4, y5, y6, y7, y8⟩ := HZS.out
    clear y0 y1 y2 y3 y4 y5 y6 y7 y8
    have HI := Lk.mk (show ∀ W : World, Calls Tryd.prog 31 #[.int .u8 13, .slice (some ⟨W.heap.size, 0, none⟩) 4 4] (W.alloc (.cells #[.int .u8 1, .int .u8 11, .int .u8 12, .int .u8 13] 5)) fun e w' => e = .returned (.bool true) ∧ w' = W.alloc (.cells #[.int .u8 1, .int .u8 11, .int .u8 12, .int .u8 13] 5) from fun W => rin_lit 13 [1, 11, 12, 13] true W _ rfl (by decide) (by decide))
    go_wp2_with (first
      | (go_at_call 31; (with_reducible refine (HI.out _).mono ?_); rintro e w3 ⟨rfl, hw⟩; have HB := Lk.mk (show Below w.heap.size w w3 by rw [hw]; exact below_alloc HB.out _); have HX := Lk.mk (show w3.heap[w.heap.size]? = some (.cells #[.int .u8 13, .int .i64 (p : Int), .int .i64 (g : Int), .int .i64 (f : Int), .int .i64 (d : Int), .int .i64 (s : Int), .int .u8 v0, .int .u64 (v1 : Int), .int .i64 (v2 : Int), .int .i64 (v3 : Int), .int .u8 (o : Int), .slice A l.length c] 46 (0, 0)) by rw [hw]; exact blk_alloc HX.out _); obtain ⟨⟨b0, b1, b2, b3, b4, b5⟩, b6, b7, b8, b9, b10, b11⟩ := line_cells HX.out; clear hw))
    go_ret
    exact ⟨by rw [HZ2.out]; rfl, HB.out⟩
end Go.Proofs.YtpnklpjjbpheeaaDoor
