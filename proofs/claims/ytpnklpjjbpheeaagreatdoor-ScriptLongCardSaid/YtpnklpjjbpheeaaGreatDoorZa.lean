/-
  Steps as data; the walks of script.plain, num, forms and of; conditions: none.
-/
import Derived.Test.YtpnklpjjbpheeaaGreatDoorYe
import Derived.Test.YtpnklpjjbpheeaaGreatDoorK2
import Derived.Lib.ConvBytes
import Derived.Laws.BytesArg
import Derived.Laws.Rows
namespace Go.Proofs.YtpnklpjjbpheeaaGreatDoor
open Go.RowKit Go.Proofs.YtpnklpjjbpheeaaGreatDoorW.PrintWords
open Go.Proofs.Fl Go.Proofs.YtpnklpjjbpheeaaGreatDoor.Flt

/-- a step's numbers: kind, proc, g, fn, depth, slot; its value; op -/
structure St where
  k : Int
  p : Int
  g : Int
  f : Int
  d : Int
  s : Int
  v0 : Int
  v1 : Int
  v2 : Int
  v3 : Int
  o : Int
/-- a step as Go has it, with its row of slots -/
def stCells (x : St) (A : Option Addr) (n c : Nat) : Array Value := #[.int .u8 x.k, .int .i64 x.p, .int .i64 x.g, .int .i64 x.f, .int .i64 x.d, .int .i64 x.s, .int .u8 x.v0, .int .u64 x.v1, .int .i64 x.v2, .int .i64 x.v3, .int .u8 x.o, .slice A n c]
def plN (n : Int) : Bool := decide (n < 0) || decide (1000000 < n)
set_option maxRecDepth 100000 in
set_option maxHeartbeats 2000000 in
theorem splainLit_any (n : Int) (w : World) : Calls Tryz.prog 47 #[.int .i64 n] w fun e w' => e = .returned (.bool (plN n)) ∧ w' = w := by
  have H := Lk.mk (show plN n = (decide (n < 0) || decide (1000000 < n)) from rfl)
  generalize plN n = r at *
  go_enter Tryz.func47, Tryz.ntmps47
  go_wp2
  all_goals go_ret
  all_goals refine ⟨ret_bool ?_, rfl⟩
  all_goals rw [H.out]
  all_goals (try simp_all)
  all_goals (first | omega | (intro _; omega) | done)
set_option maxRecDepth 100000 in
set_option maxHeartbeats 2000000 in
theorem splain_any (A : Option Addr) (c : Nat) (l : List Int) (w : World) (hr : ReadsInt w .i64 A l.length l) :
    Calls Tryz.prog 32 #[.slice A l.length c] w fun e w' => e = .returned (.bool (!(l.any plN))) ∧ Below w.heap.size w w' := by
  have HC := Lk.mk (contains_ints A c l plN 47 #[] w (enters_of Tryz.func47 (by kernel_rfl) rfl) hr (fun W n _ _ => (splainLit_any n W).mono fun e W' h => ⟨h.1, h.2 ▸ Below.refl _ _⟩))
  clear hr
  generalize l.any plN = q at *
  go_enter Tryz.func32, Tryz.ntmps32
  go_wp2_with (go_at_call 46; (with_reducible refine (HC.out).mono ?_); rintro e w' ⟨rfl, hb⟩)
  go_ret
  exact ⟨rfl, hb⟩
def fWs : List ByteArray := [⟨#[115, 112, 97, 119, 110]⟩, ⟨#[101, 120, 105, 116]⟩, ⟨#[99, 97, 108, 108]⟩, ⟨#[114, 101, 116, 117, 114, 110]⟩, ⟨#[115, 101, 116]⟩, ⟨#[103, 101, 116]⟩, ⟨#[108, 111, 97, 100]⟩, ⟨#[119, 114, 105, 116, 101]⟩, ⟨#[99, 97, 108, 99]⟩, ⟨#[115, 104, 114, 105, 110, 107]⟩, ⟨#[111, 112, 101, 110]⟩, ⟨#[99, 108, 111, 115, 101]⟩, ⟨#[102, 108, 117, 115, 104]⟩]
def fFs : List ByteArray := [⟨#[102]⟩, ⟨#[103]⟩, ⟨#[103, 102]⟩, ⟨#[103]⟩, ⟨#[103, 100, 118]⟩, ⟨#[103, 100]⟩, ⟨#[103, 100]⟩, ⟨#[103, 100, 98]⟩, ⟨#[103, 111, 115]⟩, ⟨#[103]⟩, ⟨#[]⟩, ⟨#[]⟩, ⟨#[]⟩]
def fW (j : Nat) : ByteArray := fWs.getD j ⟨#[]⟩
def fF (j : Nat) : ByteArray := fFs.getD j ⟨#[]⟩
def formCells : Array Value := #[.string (fW 0), .string (fF 0), .string (fW 1), .string (fF 1), .string (fW 2), .string (fF 2), .string (fW 3), .string (fF 3), .string (fW 4), .string (fF 4), .string (fW 5), .string (fF 5), .string (fW 6), .string (fF 6), .string (fW 7), .string (fF 7), .string (fW 8), .string (fF 8), .string (fW 9), .string (fF 9), .string (fW 10), .string (fF 10), .string (fW 11), .string (fF 11), .string (fW 12), .string (fF 12)]
theorem form_at (j : Nat) (h : j < 13) : formCells[j * 2]? = some (.string (fW j)) ∧ formCells[j * 2 + 1]? = some (.string (fF j)) := by
  have : j = 0 ∨ j = 1 ∨ j = 2 ∨ j = 3 ∨ j = 4 ∨ j = 5 ∨ j = 6 ∨ j = 7 ∨ j = 8 ∨ j = 9 ∨ j = 10 ∨ j = 11 ∨ j = 12 := by omega
  rcases this with rfl | rfl | rfl | rfl | rfl | rfl | rfl | rfl | rfl | rfl | rfl | rfl | rfl <;> exact ⟨rfl, rfl⟩
set_option maxRecDepth 100000 in
set_option maxHeartbeats 2000000 in
theorem forms_any (w : World) : Calls Tryz.prog 27 #[] w fun e w' => e = .returned (.slice (some ⟨w.heap.size, 0, none⟩) 13 13) ∧ w' = w.alloc (.cells formCells 73) := by
  go_enter Tryz.func27, Tryz.ntmps27
  go_wp2
  go_ret
  exact ⟨rfl, rfl⟩
theorem cells2z {w : World} {g : Nat} {t : TypeId} {a b : Value} (h : w.heap[g]? = some (.cells #[a, b] t (0, 0))) :
    (w.cell? ⟨g, 0, none⟩ = some a ∧ w.cell? ⟨g, 1, none⟩ = some b) ∧ w.frozen? ⟨g, 0, none⟩ = false ∧ w.frozen? ⟨g, 1, none⟩ = false :=
  ⟨⟨(blk_cell h 0).trans rfl, (blk_cell h 1).trans rfl⟩, blk_frozen h 0, blk_frozen h 1⟩
theorem put2z {w : World} {g : Nat} {t : TypeId} {a b : Value} (h : w.heap[g]? = some (.cells #[a, b] t (0, 0))) (a' b' : Value) : ((w.setCell ⟨g, 0, none⟩ a').setCell ⟨g, 1, none⟩ b').heap[g]? = some (.cells #[a', b'] t (0, 0)) :=
  blk_put (blk_put h 0 a' rfl) 1 b' rfl
/-- there is a form -/
def okK (k : Int) : Bool := decide (1 ≤ k) && decide (k ≤ 13)
/-- the form's word and fields -/
def wK (k : Int) : ByteArray := if okK k then fW (k.toNat - 1) else ⟨#[]⟩
def fK (k : Int) : ByteArray := if okK k then fF (k.toNat - 1) else ⟨#[]⟩
set_option maxRecDepth 100000 in
set_option maxHeartbeats 8000000 in
theorem sof_any (x : St) (A : Option Addr) (n c : Nat) (w : World) (hk : 0 ≤ x.k ∧ x.k ≤ 255) :
    Calls Tryz.prog 31 #[.agg (stCells x A n c)] w fun e w' => e = .returned (.tuple #[.agg #[.string (wK x.k), .string (fK x.k)], .bool (okK x.k)]) ∧ Below w.heap.size w w' := by
  unfold stCells
  obtain ⟨k, p, g, f, d, s, v0, v1, v2, v3, o⟩ := x
  dsimp only at hk ⊢
  obtain ⟨wa, hwa⟩ : ∃ wa, wa = (w.alloc (.cells #[.int .u8 k, .int .i64 p, .int .i64 g, .int .i64 f, .int .i64 d, .int .i64 s, .int .u8 v0, .int .u64 v1, .int .i64 v2, .int .i64 v3, .int .u8 o, .slice A n c] 49)).alloc (.cells #[.string ⟨#[]⟩, .string ⟨#[]⟩] 73) := ⟨_, rfl⟩
  have hs : wa.heap.size = w.heap.size + 1 + 1 := by rw [hwa]; simp
  have HF := Lk.mk (show Calls Tryz.prog 27 #[] ((w.alloc (.cells #[.int .u8 k, .int .i64 p, .int .i64 g, .int .i64 f, .int .i64 d, .int .i64 s, .int .u8 v0, .int .u64 v1, .int .i64 v2, .int .i64 v3, .int .u8 o, .slice A n c] 49)).alloc (.cells #[.string ⟨#[]⟩, .string ⟨#[]⟩] 73)) fun e w' => e = .returned (.slice (some ⟨w.heap.size + 1 + 1, 0, none⟩) 13 13) ∧ w' = wa.alloc (.cells formCells 73) by rw [← hwa, ← hs]; exact forms_any wa)
  have HB := Lk.mk (show Below w.heap.size w (wa.alloc (.cells formCells 73)) by rw [hwa]; exact below_alloc (below_alloc (below_alloc (Below.refl _ _) _) _) _)
  have HX := Lk.mk (show (wa.alloc (.cells formCells 73)).cell? ⟨w.heap.size, 0, none⟩ = some (.int .u8 k) by
    have h0 := blk_alloc (blk_alloc (blk_new w (.cells #[.int .u8 k, .int .i64 p, .int .i64 g, .int .i64 f, .int .i64 d, .int .i64 s, .int .u8 v0, .int .u64 v1, .int .i64 v2, .int .i64 v3, .int .u8 o, .slice A n c] 49)) (.cells #[.string ⟨#[]⟩, .string ⟨#[]⟩] 73)) (.cells formCells 73)
    rw [← hwa] at h0
    exact (blk_cell h0 0).trans rfl)
  have HE := Lk.mk (show (wa.alloc (.cells formCells 73)).heap[w.heap.size + 1]? = some (.cells #[.string ⟨#[]⟩, .string ⟨#[]⟩] 73 (0, 0)) by
    have h0 := blk_alloc (blk_new (w.alloc (.cells #[.int .u8 k, .int .i64 p, .int .i64 g, .int .i64 f, .int .i64 d, .int .i64 s, .int .u8 v0, .int .u64 v1, .int .i64 v2, .int .i64 v3, .int .u8 o, .slice A n c] 49)) (.cells #[.string ⟨#[]⟩, .string ⟨#[]⟩] 73)) (.cells formCells 73)
    rw [← hwa] at h0
    simpa using h0)
  have HFC := Lk.mk (show (wa.alloc (.cells formCells 73)).heap[w.heap.size + 1 + 1]? = some (.cells formCells 73 (0, 0)) by
    have h0 := blk_new wa (.cells formCells 73)
    rwa [hs] at h0)
  clear hwa hs
  generalize wa.alloc (.cells formCells 73) = W at *
  have hx := HX.out
  obtain ⟨⟨e0, e1⟩, z0, z1⟩ := cells2z HE.out
  by_cases h1 : k < 1
  · have hok : okK k = false := by unfold okK; rw [decide_eq_false (by omega)]; rfl
    have HW := Lk.mk (show wK k = ⟨#[]⟩ ∧ fK k = ⟨#[]⟩ ∧ okK k = false by unfold wK fK; rw [hok]; exact ⟨rfl, rfl, rfl⟩)
    obtain ⟨q1, q2, q3⟩ := HW.out
    rw [q1, q2, q3]
    clear q1 q2 q3 hok
    go_enter Tryz.func31, Tryz.ntmps31
    go_wp2_with (go_at_call 27; (with_reducible refine (HF.out).mono ?_); rintro e w' ⟨rfl, hw⟩; subst w')
    exact bodyPost_ret (results_ct Tryz.results31 _ _ (w.heap.size + 1) 73 #[.string ⟨#[]⟩, .string ⟨#[]⟩] (0, 0) _ rfl (put2z HE.out _ _) Tryz.underlying73 rfl (by kernel_rfl)) rfl ⟨rfl, (HB.out.setCell (p := ⟨w.heap.size + 1, 0, none⟩) (Nat.le_succ _) _).setCell (p := ⟨w.heap.size + 1, 1, none⟩) (Nat.le_succ _) _⟩
  · by_cases h2 : 13 < k
    · have hok : okK k = false := by unfold okK; rw [decide_eq_false (show ¬ k ≤ 13 by omega), Bool.and_false]
      have HW := Lk.mk (show wK k = ⟨#[]⟩ ∧ fK k = ⟨#[]⟩ ∧ okK k = false by unfold wK fK; rw [hok]; exact ⟨rfl, rfl, rfl⟩)
      obtain ⟨q1, q2, q3⟩ := HW.out
      rw [q1, q2, q3]
      clear q1 q2 q3 hok
      go_enter Tryz.func31, Tryz.ntmps31
      go_wp2_with (go_at_call 27; (with_reducible refine (HF.out).mono ?_); rintro e w' ⟨rfl, hw⟩; subst w')
      exact bodyPost_ret (results_ct Tryz.results31 _ _ (w.heap.size + 1) 73 #[.string ⟨#[]⟩, .string ⟨#[]⟩] (0, 0) _ rfl (put2z HE.out _ _) Tryz.underlying73 rfl (by kernel_rfl)) rfl ⟨rfl, (HB.out.setCell (p := ⟨w.heap.size + 1, 0, none⟩) (Nat.le_succ _) _).setCell (p := ⟨w.heap.size + 1, 1, none⟩) (Nat.le_succ _) _⟩
    · obtain ⟨j, hj⟩ : ∃ j : Nat, k = (j : Int) + 1 := ⟨(k - 1).toNat, by omega⟩
      have hok : okK k = true := by unfold okK; rw [decide_eq_true (by omega), decide_eq_true (by omega)]; rfl
      have HW := Lk.mk (show wK k = fW j ∧ fK k = fF j ∧ okK k = true by unfold wK fK; rw [hok, show k.toNat - 1 = j by omega]; exact ⟨rfl, rfl, rfl⟩)
      obtain ⟨q1, q2, q3⟩ := HW.out
      rw [q1, q2, q3]
      have hjl : (j : Int) < 13 := by omega
      have hjw : IntKind.u8.wrap (k - 1) = (j : Int) := (IntWalk.u8_in _ (by omega)).trans (by omega)
      obtain ⟨c0, c1⟩ := form_at j (by omega)
      have d0 := (blk_cell HFC.out (j * 2)).trans c0
      have d1 := (blk_cell HFC.out (j * 2 + 1)).trans c1
      clear q1 q2 q3 hok hj c0 c1
      generalize fW j = F0 at *
      generalize fF j = F1 at *
      go_enter Tryz.func31, Tryz.ntmps31
      go_wp2_with (go_at_call 27; (with_reducible refine (HF.out).mono ?_); rintro e w' ⟨rfl, hw⟩; subst w')
      exact bodyPost_ret (results_ct Tryz.results31 _ _ (w.heap.size + 1) 73 #[.string F0, .string F1] (0, 0) _ rfl (put2z HE.out _ _) Tryz.underlying73 rfl (by kernel_rfl)) rfl ⟨rfl, (HB.out.setCell (p := ⟨w.heap.size + 1, 0, none⟩) (Nat.le_succ _) _).setCell (p := ⟨w.heap.size + 1, 1, none⟩) (Nat.le_succ _) _⟩
end Go.Proofs.YtpnklpjjbpheeaaGreatDoor
