/-
  The walk of bitmap.Text; conditions: the words read as told, the table of deBruijn stands.
-/
import Derived.Test.YtmlchbldcoenaaaDoorG1
import Derived.Test.YtmlchbldcoenaaaDoorSh
import Derived.Test.YtmlchbldcoenaaaDoorBq
import Derived.Lib.ConvBytes
import Derived.Laws.BytesArg
namespace Go.Proofs.YtmlchbldcoenaaaDoor
open Go.RowKit Go.Proofs.YtmlchbldcoenaaaDoorW.PrintWords

/-- bytes that were laid by a conversion: the block's cells, written since -/
def BRow (w : World) (g : Nat) (bs : List Int) : Prop := ∃ (rest : List Value) (e : TypeId), w.heap[g]? = some (.cells (nums .u8 bs ++ rest).toArray e ((nums .u8 bs ++ rest).length, (nums .u8 bs ++ rest).length + 1))
theorem BRow.cell {w : World} {g : Nat} {bs : List Int} (h : BRow w g bs) (i : Nat) (hi : i < bs.length) : w.cell? ⟨g, i, none⟩ = some (.int .u8 (bs.getD i 0)) := by
  obtain ⟨rest, e, hb⟩ := h
  have hl : i < (nums .u8 bs ++ rest).length := by rw [List.length_append, nums_length]; omega
  rw [cell_of_row w g i _ e _ hb, List.getElem?_toArray, List.getElem?_append_left (by rw [nums_length]; exact hi)]
  unfold nums
  rw [List.getElem?_map, List.getD_eq_getElem?_getD, List.getElem?_eq_getElem hi]; rfl
theorem BRow.free {w : World} {g : Nat} {bs : List Int} (h : BRow w g bs) (i : Nat) (hi : i < bs.length) : w.frozen? ⟨g, i, none⟩ = false := by
  obtain ⟨rest, e, hb⟩ := h
  have hl : i < (nums .u8 bs ++ rest).length := by rw [List.length_append, nums_length]; omega
  rw [List.length_append] at hl
  simp [World.frozen?, hb]
  omega
theorem BRow.set_ {w : World} {g : Nat} {bs : List Int} (h : BRow w g bs) (i : Nat) (x : Int) (hi : i < bs.length) : BRow (w.setCell ⟨g, i, none⟩ (.int .u8 x)) g (bs.set i x) := by
  obtain ⟨rest, e, hb⟩ := h
  refine ⟨rest, e, ?_⟩
  have e1 : nums .u8 (bs.set i x) ++ rest = (nums .u8 bs ++ rest).set i (.int .u8 x) := by
    unfold nums
    rw [List.map_set, List.set_append_left]
    rw [List.length_map]; exact hi
  rw [e1, List.length_set]
  simp only [World.setCell, Array.getElem?_modify, hb, if_true, Option.map_some]
  simp
theorem BRow.below {w w1 : World} {g : Nat} {bs : List Int} (h : BRow w g bs) (hb : Below w.heap.size w w1) : BRow w1 g bs := by
  obtain ⟨rest, e, hx⟩ := h
  exact ⟨rest, e, blk_below hx hb⟩
theorem rep_bytes (m : Nat) : (Lib.repeatL [48] m).map (fun b : UInt8 => ((b.toNat : Nat) : Int)) = List.replicate m 48 := by
  induction m with
  | zero => rfl
  | succ m ih => show _ :: (Lib.repeatL [48] m).map _ = _; rw [ih]; rfl
theorem BRow.made (w : World) (e : TypeId) (m : Nat) : BRow (Lib.bytesWorld w e ⟨(Lib.repeatL [48] m).toArray⟩) w.heap.size (List.replicate m 48) := by
  have h := Lib.bytesWorld_at_new w e ⟨(Lib.repeatL [48] m).toArray⟩
  refine ⟨List.replicate (grownCap w (⟨(Lib.repeatL [48] m).toArray⟩ : ByteArray).size 0 e - (⟨(Lib.repeatL [48] m).toArray⟩ : ByteArray).size) (Value.int .u8 0), e, ?_⟩
  have e1 : Lib.bytesCells w e ⟨(Lib.repeatL [48] m).toArray⟩ = (nums .u8 (List.replicate m 48) ++ List.replicate (grownCap w (⟨(Lib.repeatL [48] m).toArray⟩ : ByteArray).size 0 e - (⟨(Lib.repeatL [48] m).toArray⟩ : ByteArray).size) (Value.int .u8 0)).toArray := by
    unfold Lib.bytesCells nums
    rw [← rep_bytes, List.map_map]
    simp
  rw [e1] at h
  rw [h]
  simp
theorem rep_size (m : Nat) : (⟨(Lib.repeatL [48] m).toArray⟩ : ByteArray).size = m := by
  simp [ByteArray.size, Lib.repeatL_length]

def textM (n : Int) : Nat := (max 0 (min n 4096)).toNat
set_option maxRecDepth 100000 in
set_option maxHeartbeats 2000000 in
theorem text_any (A : Option Addr) (c : Nat) (l : List Int) (n : Int) (w : World) (hr : ReadsInt w .u64 A l.length l) (hw : Bm.Words l) (hl : l.length ≤ 137438953472) (hT : Tab w) :
    Calls Tryd.prog 40 #[.slice A l.length c, .int .i64 n] w fun e w' => e = .returned (.string (strOfNums (Bm.digs l (textM n)))) ∧ Below w.heap.size w w' := by
  have HM := Lk.mk (show ((textM n : Nat) : Int) = max 0 (min n 4096) by unfold textM; omega)
  have HR := Lk.mk (fun W (hb : Below w.heap.size w W) => Tryd.strings_Repeat ⟨#[48]⟩ (textM n) W (by have := HM.out; omega) (by have := HM.out; show 1 * _ ≤ _; omega))
  have HB := Lk.mk (fun W (hb : Below w.heap.size w W) => bits_any A c l (textM n) W (hr.below hb) hw hl (hT.below hb))
  rw [HM.out] at HR
  have hm : textM n ≤ 4096 := by have := HM.out; omega
  have kb : ∀ W : World, (convert 9 77 (.string ⟨(Lib.repeatL [48] (textM n)).toArray⟩)).run Tryd.prog W = .ok (.slice (some ⟨W.heap.size, 0, none⟩) (textM n) (grownCap W (textM n) 0 5)) (Lib.bytesWorld W 5 ⟨(Lib.repeatL [48] (textM n)).toArray⟩) := fun W => by
    have := print_bytes (P := Tryd.prog) 9 77 5 Tryd.underlying9 Tryd.underlying77 Tryd.underlying5 ⟨(Lib.repeatL [48] (textM n)).toArray⟩ W
    rwa [rep_size] at this
  have HG := Lk.mk (Bm.marks_digs l (textM n))
  have HLT := Lk.mk (Bm.bits_lt l (textM n))
  have HNN := Lk.mk (Bm.bits_nonneg l (textM n))
  clear hr hw hl hT
  generalize textM n = m at *
  generalize Bm.bitsL l (m : Int) = bs at *
  generalize Bm.digs l m = dg at *
  go_enter Tryd.func40, Tryd.ntmps40
  go_wp2_with (first
    | (go_at_call 58; (with_reducible refine (HR.out _ (Below.refl _ _)).mono ?_); rintro e w1 ⟨rfl, hb⟩; have HB1 := Lk.mk hb; clear hb; have HB2 := Lk.mk (bytes_below HB1.out HB1.out.size 5 ⟨(Lib.repeatL [48] m).toArray⟩); have HBR := Lk.mk (BRow.made w1 5 m))
    | (go_at_call 39; (with_reducible refine (HB.out _ HB2.out).mono ?_); rintro e w2 ⟨v, rfl, ho, hb⟩; have HB3 := Lk.mk (below_then HB2.out HB2.out.size hb); have HB4 := Lk.mk (HBR.out.below hb); have HO := Lk.mk ho; clear ho hb; obtain ⟨A2, c2, rfl, hr2⟩ := own_reads HO.out; have HR2 := Lk.mk hr2; clear hr2))
  clear HM HR HB
  have HS := Lk.mk (show (Lib.bytesWorld w1 5 ⟨(Lib.repeatL [48] m).toArray⟩).heap.size = w1.heap.size + 1 from Lib.bytesWorld_size _ _ _)
  have hbl := HR2.out.2.1
  generalize grownCap w1 m 0 5 = cp at *
  go_loopg [18] bs.length (fun gg v18 wr => ∃ kk : Nat, kk ≤ bs.length ∧ bs.length - kk ≤ gg ∧ v18 = .int .i64 kk ∧ Lk (BRow wr w1.heap.size (Bm.marks (bs.take kk) (List.replicate m 48))) ∧ Lk (wr.ownsRow (w1.heap.size + 1) 3 1 (.slice A2 bs.length c2) bs.length (nums .i64 bs)) ∧ Lk (Below w.heap.size w wr))
  case atStart => exact ⟨0, by omega, by omega, rfl, HB4, ⟨HS.out ▸ HO.out⟩, HB3⟩
  case round =>
    obtain ⟨kk, hk, hg, rfl, HBr, HOr, HBl⟩ := hrel
    by_cases hlt : kk < bs.length
    · obtain ⟨ad, rfl, hcell⟩ := (own_reads' HOr.out).at_ (kk : Int) (by omega) (by omega)
      rw [Int.toNat_natCast] at hcell
      have hx := rd_getD bs kk
      have h0 := HNN.out (bs.getD kk 0) (getD_mem _ hlt)
      have h1 := HLT.out (bs.getD kk 0) (getD_mem _ hlt)
      have HT := Lk.mk (show Bm.marks (bs.take (kk + 1)) (List.replicate m 48) = (Bm.marks (bs.take kk) (List.replicate m 48)).set (bs.getD kk 0).toNat 49 by rw [take_one hlt, Bm.marks_snoc])
      have hml := Bm.marks_length (bs.take kk) (List.replicate m 48)
      rw [List.length_replicate] at hml
      rw [hx] at hcell
      obtain ⟨i, hi⟩ := Int.eq_ofNat_of_zero_le h0
      rw [hi] at hcell h1 HT
      rw [Int.toNat_natCast] at HT
      clear hx hi h0
      have hkz : (kk : Int) < (bs.length : Int) := by omega
      generalize Bm.marks (bs.take kk) (List.replicate m 48) = ms at *
      have hc := HBr.out.cell i (by omega)
      have hf := HBr.out.free i (by omega)
      have HML := Lk.mk hml
      clear hml
      have HN := Lk.mk (HBr.out.set_ i 49 (by have := HML.out; omega))
      have HOn := Lk.mk (own_setCell HOr.out (p := ⟨w1.heap.size, i, none⟩) (fun e => by have := own_base HOr.out w1.heap.size e.symm; omega) (.int .u8 49))
      have HBn := Lk.mk (HBl.out.setCell (p := ⟨w1.heap.size, i, none⟩) HB1.out.size (.int .u8 49))
      go_wp2
      go_roundg (bs.length - (kk + 1))
      case measure => omega
      case rel => exact ⟨kk + 1, by omega, by omega, by go_num, ⟨by rw [HT.out]; exact HN.out⟩, HOn, HBn⟩
    · have hkz : ¬ (kk : Int) < (bs.length : Int) := by omega
      obtain rfl : kk = bs.length := by omega
      rw [List.take_length, HG.out] at HBr
      have hlen : dg.length = m := by
        rw [← HG.out, Bm.marks_length, List.length_replicate]
      have kq : (convert 77 9 (.slice (some ⟨w1.heap.size, 0, none⟩) m cp)).run Tryd.prog wr = .ok (.string (strOfNums dg)) wr := run_convert_bytes_arg (P := Tryd.prog) (w := wr) 77 5 Tryd.underlying77 Tryd.underlying5 w1.heap.size 0 m cp dg hlen (fun i hi => by rw [Nat.zero_add]; exact HBr.out.cell i (by omega)) 9 Tryd.underlying9
      clear hlen
      go_wp2
      go_ret
      exact ⟨rfl, HBl.out⟩
end Go.Proofs.YtmlchbldcoenaaaDoor
