/-
  Several texts as one.
-/
import Derived.Test.YtpnklpjjbpheeaaGreatDoorZn
import Derived.Lib.ConvBytes
import Derived.Laws.BytesArg
import Derived.Laws.Rows
import Derived.Lib.SplitLaws
import Derived.Defers
import Derived.Test.YtpnklpjjbpheeaaGreatDoorShf
import Derived.Shelf.Strings.Split
/-
  Plain: rows of bytes as a loop writes them; a text without a newline; conditions: none.
-/
namespace Go.Proofs.YtpnklpjjbpheeaaGreatDoor
open Go.RowKit Go.Proofs.YtpnklpjjbpheeaaGreatDoorW.PrintWords
open Go.Proofs.Fl Go.Proofs.YtpnklpjjbpheeaaGreatDoor.Flt

theorem made_bytes (m : Nat) : madeCells #[Value.int .u8 0] m = (nums .u8 (List.replicate m 0)).toArray := by
  apply Array.ext
  · simp [nums, madeCells]
  · intro i h1 h2
    simp [nums, madeCells, Nat.mod_one]
def rowX (n k : Nat) : List Int := List.replicate k 120 ++ List.replicate (n - k) 0
theorem rowX_get (n k i : Nat) (h : k ≤ n) : (rowX n k)[i]? = if i < k then some 120 else if i < n then some 0 else none := by
  unfold rowX
  rw [List.getElem?_append, List.length_replicate]
  split
  · rw [List.getElem?_replicate, if_pos (by assumption)]
  · rw [List.getElem?_replicate]
    by_cases h1 : i < n
    · rw [if_pos (by omega), if_pos h1]
    · rw [if_neg (by omega), if_neg h1]
theorem rowX_len (n k : Nat) (h : k ≤ n) : (rowX n k).length = n := by
  unfold rowX
  rw [List.length_append, List.length_replicate, List.length_replicate]
  omega
theorem rowX_set (n k : Nat) (h : k < n) : (nums .u8 (rowX n k)).toArray.setIfInBounds k (.int .u8 120) = (nums .u8 (rowX n (k + 1))).toArray := by
  rw [List.setIfInBounds_toArray]
  congr 1
  unfold nums
  rw [show (Value.int .u8 120) = (Value.int .u8) 120 from rfl, ← List.map_set]
  congr 1
  apply List.ext_getElem?
  intro i
  rw [List.getElem?_set, rowX_get n k i (by omega), rowX_get n (k + 1) i (by omega), rowX_len n k (by omega)]
  by_cases e : k = i
  · subst e
    rw [if_pos rfl, if_pos h, if_pos (by omega)]
  · rw [if_neg e]
    by_cases h1 : i < k
    · rw [if_pos h1, if_pos (by omega)]
    · rw [if_neg h1, if_neg (show ¬ i < k + 1 by omega)]
def strX (n : Nat) : ByteArray := strOfNums (List.replicate n 120)
theorem strX_size (n : Nat) : (strX n).size = n := by unfold strX; rw [strOfNums_size, List.length_replicate]
theorem rowX_full (n : Nat) : rowX n n = List.replicate n 120 := by unfold rowX; rw [Nat.sub_self]; simp
theorem strX_data (n : Nat) : (strX n).data.toList = List.replicate n (120 : UInt8) := by
  unfold strX
  rw [strOfNums_data, List.map_replicate]
  rfl
theorem count_none (c : UInt8) : ∀ l : List UInt8, (∀ x ∈ l, x ≠ c) → Lib.count l [c] = 0 := by
  intro l h
  rw [Lib.count_one]
  exact List.count_eq_zero.2 (fun hc => h c hc rfl)
theorem strX_count (n : Nat) : Lib.countB (strX n) ⟨#[10]⟩ = 0 := by
  unfold Lib.countB
  rw [strX_data]
  exact count_none 10 _ (fun x hx => by rw [(List.mem_replicate.1 hx).2]; decide)
end Go.Proofs.YtpnklpjjbpheeaaGreatDoor

/-
  The walks of script.must, the reader's next and whole where there is no line, and the deferred closure of script.Read; conditions: the reader's cells are as told.
-/
namespace Go.Proofs.YtpnklpjjbpheeaaGreatDoor
open Go.RowKit Go.Proofs.YtpnklpjjbpheeaaGreatDoorW.PrintWords
open Go.Proofs.Fl Go.Proofs.YtpnklpjjbpheeaaGreatDoor.Flt

/-- what the reader throws -/
def wrongChain : List PanicEntry := [{ v := .iface 40 (.agg #[]), recovered := false }]
set_option maxRecDepth 100000 in
set_option maxHeartbeats 2000000 in
theorem must_no (w : World) : Calls Tryz.prog 14 #[.bool false] w fun e w' => e = .panicked wrongChain ∧ w' = w := by
  go_enter Tryz.func14, Tryz.ntmps14
  go_wp2
  exact ⟨rfl, rfl, rfl⟩
set_option maxRecDepth 100000 in
set_option maxHeartbeats 2000000 in
theorem must_yes (w : World) : Calls Tryz.prog 14 #[.bool true] w fun e w' => e = .returned (.tuple #[]) ∧ w' = w := by
  go_enter Tryz.func14, Tryz.ntmps14
  go_wp2
  simp [bodyPost, results, Tryz.results14]
/-- a reader's cells -/
def rdCells (p0 p1 p2 : Int) (F : Option Addr) (nf cf : Nat) (S : Option Addr) (ns cs : Nat) (L : Option Addr) (nl cl : Nat) (a : Int) : Array Value := #[.int .i64 p0, .int .i64 p1, .int .i64 p2, .slice F nf cf, .slice S ns cs, .slice L nl cl, .int .i64 a]
set_option maxRecDepth 100000 in
set_option maxHeartbeats 2000000 in
theorem next_none (b : Nat) (p0 p1 p2 : Int) (F : Option Addr) (nf cf : Nat) (S : Option Addr) (ns cs : Nat) (L : Option Addr) (cl : Nat) (w : World) (h : w.heap[b]? = some (.cells (rdCells p0 p1 p2 F nf cf S ns cs L 0 cl 0) 38 (0, 0))) :
    Calls Tryz.prog 11 #[.pointer (some ⟨b, 0, none⟩)] w fun e w' => e = .panicked wrongChain ∧ w' = w.setCell ⟨b, 6, none⟩ (.int .i64 1) := by
  have HX := Lk.mk h
  have HX2 := Lk.mk (blk_put h 6 (.int .i64 1) rfl)
  have b6 : _ = some (Value.int .i64 0) := (blk_cell h 6).trans rfl
  have z6 := blk_frozen h 6
  have c5 : _ = some (Value.slice L 0 cl) := (blk_cell HX2.out 5).trans rfl
  have HM := Lk.mk (fun W => must_no W)
  clear h
  go_enter Tryz.func11, Tryz.ntmps11
  go_wp2_with (go_at_call 14; (with_reducible refine (HM.out _).mono ?_); rintro e w' ⟨rfl, rfl⟩)
  exact ⟨rfl, rfl, rfl⟩
set_option maxRecDepth 100000 in
set_option maxHeartbeats 2000000 in
theorem whole_none (b : Nat) (p0 p1 p2 : Int) (F : Option Addr) (nf cf : Nat) (S : Option Addr) (ns cs : Nat) (L : Option Addr) (cl : Nat) (o : Bool) (w : World) (h : w.heap[b]? = some (.cells (rdCells p0 p1 p2 F nf cf S ns cs L 0 cl 0) 38 (0, 0))) :
    Calls Tryz.prog 8 #[.pointer (some ⟨b, 0, none⟩), .bool o] w fun e w' => e = .panicked wrongChain ∧ w' = w.setCell ⟨b, 6, none⟩ (.int .i64 1) := by
  have HM := Lk.mk (next_none b p0 p1 p2 F nf cf S ns cs L cl w h)
  clear h
  go_enter Tryz.func8, Tryz.ntmps8
  go_wp2_with (go_at_call 11; (with_reducible refine (HM.out).mono ?_); rintro e w' ⟨rfl, rfl⟩)
  exact ⟨rfl, rfl, rfl⟩
set_option maxRecDepth 100000 in
set_option maxHeartbeats 2000000 in
theorem read1_thrown (bv bx bl be br : Nat) (X0 X1 X2 X3 X4 l0 e0 r0 r1 r2 r3 r4 r5 : Value) (a : Int) (w : World)
    (hv : w.heap[bv]? = some (.cells #[.pointer (some ⟨br, 0, none⟩)] 36 (0, 0))) (hx : w.heap[bx]? = some (.cells #[X0, X1, X2, X3, X4] 28 (0, 0)))
    (hl : w.heap[bl]? = some (.cells #[l0] 3 (0, 0))) (he : w.heap[be]? = some (.cells #[e0] 29 (0, 0))) (hr : w.heap[br]? = some (.cells #[r0, r1, r2, r3, r4, r5, .int .i64 a] 38 (0, 0)))
    (hne : Lk (bx ≠ bl ∧ bx ≠ be ∧ bl ≠ be ∧ br ≠ bx)) :
    CallsD Tryz.prog 7 #[.pointer (some ⟨bv, 0, none⟩), .pointer (some ⟨bx, 0, none⟩), .pointer (some ⟨bl, 0, none⟩), .pointer (some ⟨be, 0, none⟩)] (.panicking wrongChain) w fun e u' w' => e = .returned (.tuple #[]) ∧ u' = .panicking [{ v := .iface 40 (.agg #[]), recovered := true }] ∧
      w' = ((((((((w.alloc (.cells #[] 40)).setCell ⟨bx, 0, none⟩ (.int .i64 0)).setCell ⟨bx, 1, none⟩ (.int .i64 0)).setCell ⟨bx, 2, none⟩ (.int .i64 0)).setCell ⟨bx, 3, none⟩ (.slice none 0 0)).setCell ⟨bx, 4, none⟩ (.slice none 0 0)).setCell ⟨bl, 0, none⟩ (.int .i64 a)).setCell ⟨be, 0, none⟩ (.int .i64 10)) := by
  have hta : ∀ w : World, (Instr.typeAssert (.iface 40 (.agg #[])) 20 40 true).run Tryz.prog w = .ok (.tuple #[.agg #[], .bool true]) w := fun _ => by kernel_rfl
  have v0 : _ = some (Value.pointer (some ⟨br, 0, none⟩)) := (blk_cell hv 0).trans rfl
  have x0 : _ = some X0 := (blk_cell hx 0).trans rfl
  have x1 : _ = some X1 := (blk_cell hx 1).trans rfl
  have x2 : _ = some X2 := (blk_cell hx 2).trans rfl
  have x3 : _ = some X3 := (blk_cell hx 3).trans rfl
  have x4 : _ = some X4 := (blk_cell hx 4).trans rfl
  have y0 := blk_frozen hx 0
  have y1 := blk_frozen hx 1
  have y2 := blk_frozen hx 2
  have y3 := blk_frozen hx 3
  have y4 := blk_frozen hx 4
  have l1 : _ = some l0 := (blk_cell hl 0).trans rfl
  have l2 := blk_frozen hl 0
  have e1 : _ = some e0 := (blk_cell he 0).trans rfl
  have e2 := blk_frozen he 0
  have r6 : _ = some (Value.int .i64 a) := (blk_cell hr 6).trans rfl
  obtain ⟨n1, n2, n3, n4⟩ := hne.out
  have tv := World.block_lt_of_cell? w _ v0
  have tx := World.block_lt_of_cell? w _ x0
  have tl := World.block_lt_of_cell? w _ l1
  have te := World.block_lt_of_cell? w _ e1
  have tr := World.block_lt_of_cell? w _ r6
  clear hv hx hl he hr hne
  unfold wrongChain
  refine callsD_of_wpS Tryz.func7 rfl fun c₀ cs hu => ?_
  apply wpS_seq
  apply wpS_region
  simp [wpOpsS, go_sem, recoverD, hu, Tryz.ntmps7, Exit.thenS]
  refine wpS_of_wp ?_
  go_wp2
  cases c₀
  simp_all [bodyPostS, results, Tryz.results7]
/-- the world behind a throw that is caught -/
def caughtW (w : World) (bx bl be : Nat) (a : Int) : World := ((((((((w.alloc (.cells #[] 40)).setCell ⟨bx, 0, none⟩ (.int .i64 0)).setCell ⟨bx, 1, none⟩ (.int .i64 0)).setCell ⟨bx, 2, none⟩ (.int .i64 0)).setCell ⟨bx, 3, none⟩ (.slice none 0 0)).setCell ⟨bx, 4, none⟩ (.slice none 0 0)).setCell ⟨bl, 0, none⟩ (.int .i64 a)).setCell ⟨be, 0, none⟩ (.int .i64 10))
theorem caught_end (bx bl be : Nat) (X0 X1 X2 X3 X4 l0 e0 : Value) (a : Int) (w w0 : World)
    (hx : w.heap[bx]? = some (.cells #[X0, X1, X2, X3, X4] 28 (0, 0))) (hl : w.heap[bl]? = some (.cells #[l0] 3 (0, 0))) (he : w.heap[be]? = some (.cells #[e0] 29 (0, 0)))
    (hne : bx ≠ bl ∧ bx ≠ be ∧ bl ≠ be) (hb : Below w0.heap.size w0 w) (h1 : w0.heap.size ≤ bx ∧ w0.heap.size ≤ bl ∧ w0.heap.size ≤ be) :
    (caughtW w bx bl be a).heap[bx]? = some (.cells #[.int .i64 0, .int .i64 0, .int .i64 0, .slice none 0 0, .slice none 0 0] 28 (0, 0)) ∧ (caughtW w bx bl be a).heap[bl]? = some (.cells #[.int .i64 a] 3 (0, 0)) ∧ (caughtW w bx bl be a).heap[be]? = some (.cells #[.int .i64 10] 29 (0, 0)) ∧ Below w0.heap.size w0 (caughtW w bx bl be a) := by
  obtain ⟨n1, n2, n3⟩ := hne
  obtain ⟨q1, q2, q3⟩ := h1
  unfold caughtW
  refine ⟨?_, ?_, ?_, ?_⟩
  · have p := blk_put (blk_put (blk_put (blk_put (blk_put (blk_alloc hx (.cells #[] 40)) 0 (.int .i64 0) rfl) 1 (.int .i64 0) rfl) 2 (.int .i64 0) rfl) 3 (.slice none 0 0) rfl) 4 (.slice none 0 0) rfl
    exact (Below.heap_setCell _ ⟨be, 0, none⟩ _ bx n2).trans ((Below.heap_setCell _ ⟨bl, 0, none⟩ _ bx n1).trans p)
  · refine (Below.heap_setCell _ ⟨be, 0, none⟩ _ bl n3).trans ?_
    have p : _ = some (Obj.cells #[l0] 3 (0, 0)) := (Below.heap_setCell _ ⟨bx, 4, none⟩ (.slice none 0 0) bl n1.symm).trans ((Below.heap_setCell _ ⟨bx, 3, none⟩ (.slice none 0 0) bl n1.symm).trans ((Below.heap_setCell _ ⟨bx, 2, none⟩ (.int .i64 0) bl n1.symm).trans ((Below.heap_setCell _ ⟨bx, 1, none⟩ (.int .i64 0) bl n1.symm).trans ((Below.heap_setCell _ ⟨bx, 0, none⟩ (.int .i64 0) bl n1.symm).trans (blk_alloc hl (.cells #[] 40))))))
    exact blk_put p 0 _ rfl
  · have p : _ = some (Obj.cells #[e0] 29 (0, 0)) := (Below.heap_setCell _ ⟨bl, 0, none⟩ (.int .i64 a) be n3.symm).trans ((Below.heap_setCell _ ⟨bx, 4, none⟩ (.slice none 0 0) be n2.symm).trans ((Below.heap_setCell _ ⟨bx, 3, none⟩ (.slice none 0 0) be n2.symm).trans ((Below.heap_setCell _ ⟨bx, 2, none⟩ (.int .i64 0) be n2.symm).trans ((Below.heap_setCell _ ⟨bx, 1, none⟩ (.int .i64 0) be n2.symm).trans ((Below.heap_setCell _ ⟨bx, 0, none⟩ (.int .i64 0) be n2.symm).trans (blk_alloc he (.cells #[] 40)))))))
    exact blk_put p 0 _ rfl
  · exact (((((((below_alloc hb _).setCell (p := ⟨bx, 0, none⟩) q1 _).setCell (p := ⟨bx, 1, none⟩) q1 _).setCell (p := ⟨bx, 2, none⟩) q1 _).setCell (p := ⟨bx, 3, none⟩) q1 _).setCell (p := ⟨bx, 4, none⟩) q1 _).setCell (p := ⟨bl, 0, none⟩) q2 _).setCell (p := ⟨be, 0, none⟩) q3 _
end Go.Proofs.YtpnklpjjbpheeaaGreatDoor

/-
  strings.Split at a separator of one byte; conditions: none on the world.
-/
namespace Go.Proofs.YtpnklpjjbpheeaaGreatDoor
open Go.RowKit Go.Proofs.YtpnklpjjbpheeaaGreatDoorW.PrintWords
open Go.Proofs.Fl Go.Proofs.YtpnklpjjbpheeaaGreatDoor.Flt

theorem split_gen (s : ByteArray) (c : UInt8) (w : World) (hs : s.size < 4294967281) :
    Calls Tryz.prog 10 #[.string s, .string ⟨#[c]⟩, .int .i64 0, .int .i64 (-1)] w fun e w' =>
      e = .returned (.slice (some ⟨w.heap.size, 0, none⟩) (Lib.splitB ⟨#[c]⟩ 0 (Lib.countB s ⟨#[c]⟩) s).length (Lib.countB s ⟨#[c]⟩ + 1)) ∧ w' = w.alloc (.cells (Lib.cellsOf (Lib.splitB ⟨#[c]⟩ 0 (Lib.countB s ⟨#[c]⟩) s) (Lib.countB s ⟨#[c]⟩ + 1)) 9) := by
  have hc : Lib.countB s ⟨#[c]⟩ ≤ s.size := by
    unfold Lib.countB
    rw [show (⟨#[c]⟩ : ByteArray).data.toList = [c] from rfl, Lib.count_one]
    have := List.count_le_length (l := s.data.toList) (a := c)
    simpa using this
  have h := Any.strings_genSplit_core Tryz.lays221 (by kernel_rfl) s ⟨#[c]⟩ 0 (-1) (Lib.countB s ⟨#[c]⟩ + 1) w hs (Nat.le_refl _) (Nat.zero_le _)
    (fun x cs _ => (Tryz.strings_Index_one x c _).mono fun e w' ⟨he, hw⟩ => ⟨by rw [he, Lib.one x ⟨#[c]⟩ rfl]; show _ = Ending.returned (Value.int .i64 (Lib.indexByte x.data.toList ((((c.toNat : Nat) : Int)).toNat.toUInt8))); rw [Lib.byte_back'], hw⟩) ((Tryz.strings_Count_one s c w).mono fun e w' ⟨he, hw⟩ => ⟨by rw [he]; show _ = Ending.returned (Value.int .i64 ((Lib.count s.data.toList [c] : Nat) : Int)); rw [Lib.count_one]; rfl, hw⟩) (by decide) (by decide) (by rw [if_pos (by decide)]; omega)
  exact h
set_option maxRecDepth 100000 in
set_option maxHeartbeats 2000000 in
theorem split_one (s : ByteArray) (c : UInt8) (w : World) (hs : s.size < 4294967281) :
    Calls Tryz.prog 6 #[.string s, .string ⟨#[c]⟩] w fun e w' =>
      e = .returned (.slice (some ⟨w.heap.size, 0, none⟩) (Lib.countB s ⟨#[c]⟩ + 1) (Lib.countB s ⟨#[c]⟩ + 1)) ∧ w' = w.alloc (.cells ((Lib.splitB ⟨#[c]⟩ 0 (Lib.countB s ⟨#[c]⟩) s).map Value.string).toArray 9) := by
  have h := split_gen s c w hs
  have hl := Lib.splitB_all ⟨#[c]⟩ (Nat.le_refl 1) 0 _ s rfl
  rw [hl] at h
  rw [show Lib.cellsOf (Lib.splitB ⟨#[c]⟩ 0 (Lib.countB s ⟨#[c]⟩) s) (Lib.countB s ⟨#[c]⟩ + 1) = ((Lib.splitB ⟨#[c]⟩ 0 (Lib.countB s ⟨#[c]⟩) s).map Value.string).toArray by rw [← hl]; exact Lib.cellsOf_full _] at h
  have H := Lk.mk h
  clear h hl
  generalize Lib.countB s ⟨#[c]⟩ + 1 = n at *
  generalize (Lib.splitB ⟨#[c]⟩ 0 (Lib.countB s ⟨#[c]⟩) s) = L at *
  go_enter Tryz.func6, Tryz.ntmps6
  go_wp2_with (go_at_call 10; (with_reducible refine (H.out).mono ?_); rintro e w' ⟨rfl, rfl⟩)
  go_ret
  exact ⟨rfl, rfl⟩
end Go.Proofs.YtpnklpjjbpheeaaGreatDoor

/-
  The walk of script.Read at a text that is too long and at one without a newline; conditions: none.
-/
namespace Go.Proofs.YtpnklpjjbpheeaaGreatDoor
open Go.RowKit Go.Proofs.YtpnklpjjbpheeaaGreatDoorW.PrintWords
open Go.Proofs.Fl Go.Proofs.YtpnklpjjbpheeaaGreatDoor.Flt

def noScript : Value := .agg #[.int .i64 0, .int .i64 0, .int .i64 0, .slice none 0 0, .slice none 0 0]
set_option maxRecDepth 100000 in
set_option maxHeartbeats 8000000 in
theorem read_long (s : ByteArray) (w : World) (h : 262144 < s.size) : Calls Tryz.prog 4 #[.string s] w fun e w' => e = .returned (.tuple #[noScript, .int .i64 0, .int .i64 11]) ∧ Below w.heap.size w w' := by
  unfold noScript
  have hz : (262144 : Int) < (s.size : Int) := by omega
  have h0 := below_alloc (below_alloc (below_alloc (Below.refl w.heap.size w) (.cells #[.int .i64 0, .int .i64 0, .int .i64 0, .slice none 0 0, .slice none 0 0] 28)) (.cells #[.int .i64 0] 3)) (.cells #[.int .i64 0] 29)
  have H0 := Lk.mk h0
  obtain ⟨W, hW⟩ : ∃ W, W = (((w.alloc (.cells #[.int .i64 0, .int .i64 0, .int .i64 0, .slice none 0 0, .slice none 0 0] 28)).alloc (.cells #[.int .i64 0] 3)).alloc (.cells #[.int .i64 11] 29)) := ⟨_, rfl⟩
  have HX := Lk.mk (show W.heap[w.heap.size]? = some (.cells #[.int .i64 0, .int .i64 0, .int .i64 0, .slice none 0 0, .slice none 0 0] 28 (0, 0)) by rw [hW]; exact blk_alloc (blk_alloc (blk_new w _) _) _)
  have HL := Lk.mk (show W.heap[w.heap.size + 1]? = some (.cells #[.int .i64 0] 3 (0, 0)) by rw [hW]; have h := blk_alloc (blk_new (w.alloc (.cells #[.int .i64 0, .int .i64 0, .int .i64 0, .slice none 0 0, .slice none 0 0] 28)) (.cells #[.int .i64 0] 3)) (.cells #[.int .i64 11] 29); simpa using h)
  have HE := Lk.mk (show W.heap[w.heap.size + 1 + 1]? = some (.cells #[.int .i64 11] 29 (0, 0)) by rw [hW]; have h := blk_new ((w.alloc (.cells #[.int .i64 0, .int .i64 0, .int .i64 0, .slice none 0 0, .slice none 0 0] 28)).alloc (.cells #[.int .i64 0] 3)) (.cells #[.int .i64 11] 29); simpa using h)
  have HB := Lk.mk (show Below w.heap.size w W by rw [hW]; exact below_alloc (below_alloc (below_alloc (Below.refl _ _) _) _) _)
  have HW := Lk.mk hW
  clear hW h0 h
  go_enter_defers Tryz.func4, Tryz.ntmps4
  go_wp2
  rw [← HW.out]
  have c0 : _ = some (Value.int .i64 0) := (blk_cell HX.out 0).trans rfl
  have c1 : _ = some (Value.int .i64 0) := (blk_cell HX.out 1).trans rfl
  have c2 : _ = some (Value.int .i64 0) := (blk_cell HX.out 2).trans rfl
  have c3 : _ = some (Value.slice none 0 0) := (blk_cell HX.out 3).trans rfl
  have c4 : _ = some (Value.slice none 0 0) := (blk_cell HX.out 4).trans rfl
  have d0 : _ = some (Value.int .i64 0) := (blk_cell HL.out 0).trans rfl
  have f0 : _ = some (Value.int .i64 11) := (blk_cell HE.out 0).trans rfl
  simp [bodyPostD, Leaves, settle, results, Tryz.results4, go_sem, c0, c1, c2, c3, c4, d0, f0]
  exact HB.out
set_option maxRecDepth 100000 in
set_option maxHeartbeats 8000000 in
theorem read_noline (s : ByteArray) (w : World) (h : s.size ≤ 262144) (h0 : 0 < s.size) (hc : Lib.countB s ⟨#[10]⟩ = 0) : Calls Tryz.prog 4 #[.string s] w fun e w' => e = .returned (.tuple #[noScript, .int .i64 1, .int .i64 10]) ∧ Below w.heap.size w w' := by
  unfold noScript
  have hz : ¬ (262144 : Int) < (s.size : Int) := by omega
  have hE : s.toList.isEmpty = false := by
    rw [Lib.toList_data]
    cases hh : s.data.toList with
    | nil => have := Lib.size_eq s; rw [hh, List.length_nil] at this; omega
    | cons _ _ => rfl
  have HS := Lk.mk (show ∀ W, Calls Tryz.prog 6 #[.string s, .string ⟨#[10]⟩] W fun e w' => e = .returned (.slice (some ⟨W.heap.size, 0, none⟩) 1 1) ∧ w' = W.alloc (.cells #[.string s] 9) from fun W => by
    have h1 := split_one s 10 W (by omega)
    rw [hc] at h1
    exact h1)
  obtain ⟨w3, hw3⟩ : ∃ w3, w3 = (((w.alloc (.cells #[.int .i64 0, .int .i64 0, .int .i64 0, .slice none 0 0, .slice none 0 0] 28)).alloc (.cells #[.int .i64 0] 3)).alloc (.cells #[.int .i64 0] 29)) := ⟨_, rfl⟩
  have hz3 : w3.heap.size = w.heap.size + 1 + 1 + 1 := by rw [hw3]; simp
  have FX : ∀ (a : Int) (w6 : World), w6 = (((w3.alloc (.cells #[.string s] 9)).alloc (.cells #[.int .i64 0, .int .i64 0, .int .i64 0, .slice none 0 0, .slice none 0 0, .slice (some ⟨w.heap.size + 1 + 1 + 1, 0, none⟩) 0 1, .int .i64 a] 38)).alloc (.cells #[.pointer (some ⟨w.heap.size + 1 + 1 + 1 + 1, 0, none⟩)] 36)) → (w6.heap[w.heap.size]? = some (.cells #[.int .i64 0, .int .i64 0, .int .i64 0, .slice none 0 0, .slice none 0 0] 28 (0, 0))) ∧ (w6.heap[w.heap.size + 1]? = some (.cells #[.int .i64 0] 3 (0, 0))) ∧ (w6.heap[w.heap.size + 1 + 1]? = some (.cells #[.int .i64 0] 29 (0, 0))) ∧ (w6.heap[w.heap.size + 1 + 1 + 1 + 1]? = some (.cells #[.int .i64 0, .int .i64 0, .int .i64 0, .slice none 0 0, .slice none 0 0, .slice (some ⟨w.heap.size + 1 + 1 + 1, 0, none⟩) 0 1, .int .i64 a] 38 (0, 0))) ∧ (w6.heap[w.heap.size + 1 + 1 + 1 + 1 + 1]? = some (.cells #[.pointer (some ⟨w.heap.size + 1 + 1 + 1 + 1, 0, none⟩)] 36 (0, 0))) ∧ (Below w.heap.size w w6) := by
    intro a w6 hw6
    refine ⟨?_, ?_, ?_, ?_, ?_, ?_⟩
    · rw [hw6, hw3]
      exact blk_alloc (blk_alloc (blk_alloc (blk_alloc (blk_alloc (blk_new w _) _) _) _) _) _
    · rw [hw6, hw3]
      have h := blk_alloc (blk_alloc (blk_alloc (blk_alloc (blk_new (w.alloc (.cells #[.int .i64 0, .int .i64 0, .int .i64 0, .slice none 0 0, .slice none 0 0] 28)) (.cells #[.int .i64 0] 3)) (.cells #[.int .i64 0] 29)) (.cells #[.string s] 9)) (.cells #[.int .i64 0, .int .i64 0, .int .i64 0, .slice none 0 0, .slice none 0 0, .slice (some ⟨w.heap.size + 1 + 1 + 1, 0, none⟩) 0 1, .int .i64 a] 38)) (.cells #[.pointer (some ⟨w.heap.size + 1 + 1 + 1 + 1, 0, none⟩)] 36)
      rw [show (w.alloc (.cells #[.int .i64 0, .int .i64 0, .int .i64 0, .slice none 0 0, .slice none 0 0] 28)).heap.size = w.heap.size + 1 by simp] at h
      exact h
    · rw [hw6, hw3]
      have h := blk_alloc (blk_alloc (blk_alloc (blk_new ((w.alloc (.cells #[.int .i64 0, .int .i64 0, .int .i64 0, .slice none 0 0, .slice none 0 0] 28)).alloc (.cells #[.int .i64 0] 3)) (.cells #[.int .i64 0] 29)) (.cells #[.string s] 9)) (.cells #[.int .i64 0, .int .i64 0, .int .i64 0, .slice none 0 0, .slice none 0 0, .slice (some ⟨w.heap.size + 1 + 1 + 1, 0, none⟩) 0 1, .int .i64 a] 38)) (.cells #[.pointer (some ⟨w.heap.size + 1 + 1 + 1 + 1, 0, none⟩)] 36)
      rw [show ((w.alloc (.cells #[.int .i64 0, .int .i64 0, .int .i64 0, .slice none 0 0, .slice none 0 0] 28)).alloc (.cells #[.int .i64 0] 3)).heap.size = w.heap.size + 1 + 1 by simp] at h
      exact h
    · rw [hw6]
      have h := blk_alloc (blk_new (w3.alloc (.cells #[.string s] 9)) (.cells #[.int .i64 0, .int .i64 0, .int .i64 0, .slice none 0 0, .slice none 0 0, .slice (some ⟨w.heap.size + 1 + 1 + 1, 0, none⟩) 0 1, .int .i64 a] 38)) (.cells #[.pointer (some ⟨w.heap.size + 1 + 1 + 1 + 1, 0, none⟩)] 36)
      rw [show (w3.alloc (.cells #[.string s] 9)).heap.size = w.heap.size + 1 + 1 + 1 + 1 by simp [hz3]] at h
      exact h
    · rw [hw6]
      have h := blk_new ((w3.alloc (.cells #[.string s] 9)).alloc (.cells #[.int .i64 0, .int .i64 0, .int .i64 0, .slice none 0 0, .slice none 0 0, .slice (some ⟨w.heap.size + 1 + 1 + 1, 0, none⟩) 0 1, .int .i64 a] 38)) (.cells #[.pointer (some ⟨w.heap.size + 1 + 1 + 1 + 1, 0, none⟩)] 36)
      rw [show ((w3.alloc (.cells #[.string s] 9)).alloc (.cells #[.int .i64 0, .int .i64 0, .int .i64 0, .slice none 0 0, .slice none 0 0, .slice (some ⟨w.heap.size + 1 + 1 + 1, 0, none⟩) 0 1, .int .i64 a] 38)).heap.size = w.heap.size + 1 + 1 + 1 + 1 + 1 by simp [hz3]] at h
      exact h
    · rw [hw6, hw3]
      exact below_alloc (below_alloc (below_alloc (below_alloc (below_alloc (below_alloc (Below.refl _ _) _) _) _) _) _) _
  have hs3 : (w3.alloc (.cells #[.string s] 9)).cell? ⟨w.heap.size + 1 + 1 + 1, 0, none⟩ = some (.string s) := by
    have h := blk_cell (blk_new w3 (.cells #[.string s] 9)) 0
    rw [hz3] at h
    exact h
  rw [hw3] at hs3
  have hwc := whole_none (w.heap.size + 1 + 1 + 1 + 1) 0 0 0 none 0 0 none 0 0 (some ⟨w.heap.size + 1 + 1 + 1, 0, none⟩) 1 true _ (FX 0 _ rfl).2.2.2.1
  rw [hw3] at hwc
  have HWC := Lk.mk hwc
  obtain ⟨w7, hw7⟩ : ∃ w7, w7 = ((((((w.alloc (.cells #[.int .i64 0, .int .i64 0, .int .i64 0, .slice none 0 0, .slice none 0 0] 28)).alloc (.cells #[.int .i64 0] 3)).alloc (.cells #[.int .i64 0] 29)).alloc (.cells #[.string s] 9)).alloc (.cells #[.int .i64 0, .int .i64 0, .int .i64 0, .slice none 0 0, .slice none 0 0, .slice (some ⟨w.heap.size + 1 + 1 + 1, 0, none⟩) 0 1, .int .i64 1] 38)).alloc (.cells #[.pointer (some ⟨w.heap.size + 1 + 1 + 1 + 1, 0, none⟩)] 36)) := ⟨_, rfl⟩
  obtain ⟨f1, f2, f3, f4, f5, f6⟩ := FX 1 w7 (by rw [hw7, hw3])
  have HX6 := Lk.mk f1
  have HL6 := Lk.mk f2
  have HE6 := Lk.mk f3
  have HR6 := Lk.mk f4
  have HV6 := Lk.mk f5
  have HB6 := Lk.mk f6
  have HW := Lk.mk hw7
  clear f1 f2 f3 f4 f5 f6 FX hw7
  clear hwc hw3 hz3 h h0 hc
  go_enter_defers Tryz.func4, Tryz.ntmps4
  go_wp2_with (first
    | (go_at_call 6; (with_reducible refine (HS.out _).mono ?_); rintro e w' ⟨rfl, rfl⟩)
    | (go_at_call 8; (with_reducible refine (HWC.out).mono ?_); rintro e w' ⟨rfl, rfl⟩))
  rw [← HW.out]
  refine leaves_cons (f := 7) (args := #[.pointer (some ⟨w.heap.size + 1 + 1 + 1 + 1 + 1, 0, none⟩), .pointer (some ⟨w.heap.size, 0, none⟩), .pointer (some ⟨w.heap.size + 1, 0, none⟩), .pointer (some ⟨w.heap.size + 1 + 1, 0, none⟩)]) (by simp) (by simp [go_sem]) ?_
  refine (read1_thrown _ _ _ _ _ _ _ _ _ _ _ _ _ _ _ _ _ _ 1 w7 HV6.out HX6.out HL6.out HE6.out HR6.out ⟨by omega⟩).mono ?_
  rintro e u' w'' ⟨rfl, rfl, hw⟩
  obtain ⟨k1, k2, k3, k4⟩ := caught_end w.heap.size (w.heap.size + 1) (w.heap.size + 1 + 1) _ _ _ _ _ _ _ 1 w7 w HX6.out HL6.out HE6.out (by omega) HB6.out (by omega)
  unfold caughtW at k1 k2 k3 k4
  rw [← hw] at k1 k2 k3 k4
  have HB7 := Lk.mk k4
  clear hw k4
  have c0 : _ = some (Value.int .i64 0) := (blk_cell k1 0).trans rfl
  have c1 : _ = some (Value.int .i64 0) := (blk_cell k1 1).trans rfl
  have c2 : _ = some (Value.int .i64 0) := (blk_cell k1 2).trans rfl
  have c3 : _ = some (Value.slice none 0 0) := (blk_cell k1 3).trans rfl
  have c4 : _ = some (Value.slice none 0 0) := (blk_cell k1 4).trans rfl
  have d0 : _ = some (Value.int .i64 1) := (blk_cell k2 0).trans rfl
  have f0 : _ = some (Value.int .i64 10) := (blk_cell k3 0).trans rfl
  simp [Leaves, settle, results, Tryz.results4, go_sem, c0, c1, c2, c3, c4, d0, f0]
  exact HB7.out
end Go.Proofs.YtpnklpjjbpheeaaGreatDoor
