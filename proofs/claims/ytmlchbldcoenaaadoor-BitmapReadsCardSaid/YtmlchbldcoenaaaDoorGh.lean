/-
  The walk of the law BitmapReads; conditions: what is handed in reads as told, the table of deBruijn stands.
-/
import Derived.Test.YtmlchbldcoenaaaDoorGg
namespace Go.Proofs.YtmlchbldcoenaaaDoor
open Go.RowKit Go.Proofs.YtmlchbldcoenaaaDoorW.PrintWords

theorem bytes_digs (b : List Int) (m : Nat) : bytesOf (strOfNums (Bm.digs b m)) = Bm.digs b m := by
  unfold bytesOf
  rw [strOfNums_data, List.map_map]
  conv => rhs; rw [← List.map_id (Bm.digs b m)]
  apply List.map_congr_left
  intro x hx
  unfold Bm.digs at hx
  obtain ⟨i, _, rfl⟩ := List.mem_map.1 hx
  cases Bm.bitAt b i <;> rfl
set_option maxRecDepth 100000 in
set_option maxHeartbeats 8000000 in
theorem lawOfBitmapReads (s : ByteArray) (A : Option Addr) (c : Nat) (l : List Int) (n : Int) (w : World) (hs : s.size ≤ 9223372036854775807) (hr : ReadsInt w .u64 A l.length l) (hw : Bm.Words l) (_ : l.length ≤ c) (_ : -9223372036854775808 ≤ n ∧ n ≤ 9223372036854775807) (hT : Tab w) :
    Calls Tryd.prog 11 #[.string s, .slice A l.length c, .int .i64 n] w fun e w' => e = .returned (.bool true) ∧ Below w.heap.size w w' := by
  have hm := hr.2.1
  have HT := Lk.mk hT
  by_cases h1 : 5000 < s.size
  · have h1z : (5000 : Int) < (s.size : Int) := by omega
    clear hr hw hT
    go_enter Tryd.func11, Tryd.ntmps11
    go_wp2_with (go_at_call 31; (with_reducible refine (awake03_any _ HT.out).mono ?_); rintro e w1 ⟨rfl, hb⟩)
    go_ret
    exact ⟨rfl, hb⟩
  · have h1z : ¬ (5000 : Int) < (s.size : Int) := by omega
    by_cases h2 : 64 < l.length
    · have h2z : (64 : Int) < (l.length : Int) := by omega
      clear hr hw hT
      go_enter Tryd.func11, Tryd.ntmps11
      go_wp2_with (go_at_call 31; (with_reducible refine (awake03_any _ HT.out).mono ?_); rintro e w1 ⟨rfl, hb⟩)
      go_ret
      exact ⟨rfl, hb⟩
    · have h2z : ¬ (64 : Int) < (l.length : Int) := by omega
      have hmx : ((textM n : Nat) : Int) = max 0 (min n 4096) := by unfold textM; omega
      have HP := Lk.mk (fun W => read_any s W hs)
      have HRP := Lk.mk (fun W => refRead_any s W hs)
      have hO := Bm.ofL_words (Bm.readL (bytesOf s))
      have hOl := Bm.ofL_length (Bm.readL (bytesOf s))
      have hO2 := Bm.ofL_words (Bm.bitsL l n)
      have hOl2 := Bm.ofL_length (Bm.bitsL l n)
      have HB1 := Lk.mk (fun A c W (hr : ReadsInt W .u64 A (Bm.ofL (Bm.readL (bytesOf s))).length (Bm.ofL (Bm.readL (bytesOf s)))) => (Bm.read_bits (bytesOf s)) ▸ refBits_any A c (Bm.ofL (Bm.readL (bytesOf s))) 4096 W hr hO (by omega))
      have HTi := Lk.mk (Bm.tight_of (Bm.readL (bytesOf s)))
      have HX := Lk.mk (fun W (hb : Below w.heap.size w W) => text_any A c l n W (hr.below hb) hw (by omega) (hT.below hb))
      obtain ⟨d1, d2⟩ := Bm.read_digs l n (textM n) hmx (by omega)
      have HP2 := Lk.mk (fun W => show Calls Tryd.prog 44 #[.string (strOfNums (Bm.digs l (textM n)))] W fun e w' => ∃ v, e = .returned (.tuple #[v, .int .i64 0]) ∧ w'.ownsRow W.heap.size 23 1 v (Bm.ofL (Bm.bitsL l n)).length (nums .u64 (Bm.ofL (Bm.bitsL l n))) ∧ Below W.heap.size W w' from by
        have := read_any (strOfNums (Bm.digs l (textM n))) W (by rw [strOfNums_size, Bm.digs_length]; omega)
        rwa [bytes_digs, d1, d2] at this)
      have e2 : Bm.bitsL (Bm.ofL (Bm.bitsL l n)) 4096 = Bm.bitsL l n := by
        rw [← d2]; exact Bm.read_bits _
      have HB2 := Lk.mk (fun A c W (hr : ReadsInt W .u64 A (Bm.ofL (Bm.bitsL l n)).length (Bm.ofL (Bm.bitsL l n))) => e2 ▸ refBits_any A c (Bm.ofL (Bm.bitsL l n)) 4096 W hr hO2 (by omega))
      have HB3 := Lk.mk (fun W (hb : Below w.heap.size w W) => refBits_any A c l n W (hr.below hb) hw (by omega))
      clear hr hw hT hO hO2 hOl hOl2 hmx d1 d2 e2
      generalize strOfNums (Bm.digs l (textM n)) = tx at *
      generalize Bm.ofL (Bm.bitsL l n) = o2 at *
      generalize Bm.bitsL l n = b2 at *
      generalize Bm.readE (bytesOf s) = er at *
      generalize Bm.ofL (Bm.readL (bytesOf s)) = o1 at *
      generalize Bm.readL (bytesOf s) = b1 at *
      have HB := Lk.mk (Below.refl w.heap.size w)
      have hee : (er != er) = false := by simp
      go_enter Tryd.func11, Tryd.ntmps11
      go_wp2_with (first
        | (go_at_call 44; (with_reducible refine (HP.out _).mono ?_); rintro e w1 ⟨v1, rfl, ho, hb⟩; obtain ⟨A1, c1, rfl, hr1⟩ := own_reads ho; have HB := Lk.mk (below_then HB.out HB.out.size hb); have H1 := Lk.mk hr1; clear ho hb hr1)
        | (go_at_call 45; (with_reducible refine (HRP.out _).mono ?_); rintro e w2 ⟨v2, rfl, ho, hb⟩; obtain ⟨A2, c2, rfl, hr2⟩ := own_reads ho; have HB := Lk.mk (below_then HB.out HB.out.size hb); have H1 := Lk.mk (H1.out.below hb); have H2 := Lk.mk hr2; clear ho hb hr2)
        | (go_at_call 18; (with_reducible refine (HB1.out _ _ _ H1.out).mono ?_); rintro e w3 ⟨v3, rfl, ho, hb⟩; obtain ⟨A3, c3, rfl, hr3⟩ := own_reads ho; have HB := Lk.mk (below_then HB.out HB.out.size hb); have H1 := Lk.mk (H1.out.below hb); have H2 := Lk.mk (H2.out.below hb); have H3 := Lk.mk hr3; clear ho hb hr3)
        | (go_at_call 17; (with_reducible refine (refInts_any _ _ b1 _ _ b1 _ H3.out H2.out).mono ?_); rw [decide_eq_true rfl]; rintro e w' ⟨rfl, hb⟩; have HB := Lk.mk (below_then HB.out HB.out.size hb); have H1 := Lk.mk (H1.out.below hb); clear hb)
        | (go_at_call 36; (with_reducible refine (HTi.out ▸ tight_any _ _ o1 _ H1.out).mono ?_); rintro e w' ⟨rfl, hw⟩; obtain rfl := hw.symm; clear hw)
        | (go_at_call 40; (with_reducible refine (HX.out _ HB.out).mono ?_); rintro e w4 ⟨rfl, hb⟩; have HB := Lk.mk (below_then HB.out HB.out.size hb); clear hb)
        | (go_at_call 44; (with_reducible refine (HP2.out _).mono ?_); rintro e w5 ⟨v5, rfl, ho, hb⟩; obtain ⟨A5, c5, rfl, hr5⟩ := own_reads ho; have HB := Lk.mk (below_then HB.out HB.out.size hb); have H5 := Lk.mk hr5; clear ho hb hr5)
        | (go_at_call 18; (with_reducible refine (HB2.out _ _ _ H5.out).mono ?_); rintro e w6 ⟨v6, rfl, ho, hb⟩; obtain ⟨A6, c6, rfl, hr6⟩ := own_reads ho; have HB := Lk.mk (below_then HB.out HB.out.size hb); have H6 := Lk.mk hr6; clear ho hb hr6)
        | (go_at_call 18; (with_reducible refine (HB3.out _ HB.out).mono ?_); rintro e w7 ⟨v7, rfl, ho, hb⟩; obtain ⟨A7, c7, rfl, hr7⟩ := own_reads ho; have HB := Lk.mk (below_then HB.out HB.out.size hb); have H6 := Lk.mk (H6.out.below hb); have H7 := Lk.mk hr7; clear ho hb hr7)
        | (go_at_call 17; (with_reducible refine (refInts_any _ _ b2 _ _ b2 _ H6.out H7.out).mono ?_); rw [decide_eq_true rfl]; rintro e w' ⟨rfl, hb⟩; have HB := Lk.mk (below_then HB.out HB.out.size hb); clear hb)
        | (go_at_call 31; (with_reducible refine (awake03_any _ (HT.out.below HB.out)).mono ?_); rintro e w1 ⟨rfl, hb⟩; have HB := Lk.mk (below_then HB.out HB.out.size hb); clear hb))
      go_ret
      exact ⟨rfl, HB.out⟩
end Go.Proofs.YtmlchbldcoenaaaDoor
