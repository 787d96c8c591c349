/-
  The law AuditTurns; conditions: the parts read as told.
-/
import Derived.Test.YtcepafllgjnngaaJn
import Derived.Deep.RegionHeld3
import Derived.Laws.Rows
namespace Go.Proofs.Ytcepafllgjnngaa
open Go.RowKit Go.Proofs.YtcepafllgjnngaaW.PrintWords
open So

/-- the last parts, the other way round -/
def bk (l : List Q) (m : Nat) : List Q := (l.drop m).reverse
theorem bk_all (l : List Q) : bk l l.length = [] := by unfold bk; simp
theorem bk_next (l : List Q) (i : Nat) (h : i < l.length) : bk l (i + 1) ++ [l.getD i dQ] = bk l i := by
  unfold bk
  rw [List.drop_eq_getElem_cons h, List.reverse_cons, List.getD_eq_getElem?_getD, List.getElem?_eq_getElem h]
  rfl
theorem bk_zero (l : List Q) : bk l 0 = l.reverse := by unfold bk; simp
theorem bk_length (l : List Q) (m : Nat) : (bk l m).length = l.length - m := by unfold bk; simp
theorem rev_getD (l : List Q) (p : Nat) (h : p < l.length) : l.reverse.getD p dQ = l.getD (l.length - 1 - p) dQ := by
  rw [List.getD_eq_getElem?_getD, List.getD_eq_getElem?_getD, List.getElem?_reverse h]
theorem rev_eqv (l : List Q) : Eqv l.length (fun p => l.getD p dQ) (fun p => l.reverse.getD p dQ) := by
  intro f
  have h1 : sumTo (fun p => f (l.reverse.getD p dQ)) l.length = sumTo (fun p => (fun k => f (l.getD k dQ)) (l.length - 1 - p)) l.length :=
    sum_congr fun p hp => by show f _ = f _; rw [rev_getD l p hp]
  exact h1.trans (sum_rev (fun k => f (l.getD k dQ)) l.length)
theorem rev_ok (words : Int) (l : List Q) : okW words l.reverse = okW words l := by unfold okW; rw [List.any_reverse]
theorem rev_sumL (k : Int) (l : List Q) : sumL k l.reverse = sumL k l := by
  unfold sumL
  rw [List.length_reverse]
  exact rev_eqv l (sumF k)
theorem rev_wr {words : Int} {l : List Q} {ok : Bool} {k a k' a' : Int} (hA : Apart l.length (fun p => l.getD p dQ)) (h : WR words l ok k a) (h' : WR words l.reverse ok k' a') : k' = k ∧ a' = a := by
  obtain ⟨r, h1, h2⟩ := h
  obtain ⟨s, h3, h4⟩ := h'
  rw [List.length_reverse] at h3 h4
  have hs : ok = true → ∀ p, p < l.length → s p = r p := fun ho => same_row hA ((rev_eqv l).trans (h3 ho).1) (h3 ho).2 (h1 ho).1 (h1 ho).2
  exact WholeR.det hs h4 h2
/-- none of the last ones begins where one ahead of it does -/
def Far (l : List Q) (m : Nat) : Prop := ∀ i j, i < j → m ≤ j → j < l.length → key (l.getD i dQ) ≠ key (l.getD j dQ)
theorem Far.apart {l : List Q} (h : Far l 0) : Apart l.length (fun p => l.getD p dQ) := fun i j h1 h2 => h i j h1 (Nat.zero_le _) h2
set_option maxRecDepth 100000 in
set_option maxHeartbeats 8000000 in
theorem lawOfAuditTurns (A : Option Addr) (c : Nat) (l : List Q) (words : Int) (w : World) (hr : kPt.C w A l.length l) (_ : ∀ x ∈ l, 0 ≤ x.1 ∧ x.1 ≤ 255) :
    Calls Try.prog 4 #[.int .i64 words, .slice A l.length c] w fun e w' => e = .returned (.bool true) ∧ Below w.heap.size w w' := by
  have HAW := Lk.mk awake22_any
  have hm := hr.2.1
  by_cases h100 : 100 < l.length
  · have hz : (100 : Int) < (l.length : Int) := by omega
    clear hr h100
    go_enter Try.func4, Try.ntmps4
    go_wp2_with (go_at_call 11; (with_reducible refine (HAW.out _).mono ?_); rintro e w' ⟨rfl, hb⟩)
    go_ret
    exact ⟨rfl, hb⟩
  · have hz : ¬ (100 : Int) < (l.length : Int) := by omega
    have HL := Lk.mk (show l.length ≤ 100 by omega)
    have HR := Lk.mk hr
    have HBa := Lk.mk (below_alloc (Below.refl w.heap.size w) (.cells #[] 34))
    have HR0 := Lk.mk (show kPt.R 34 (w.alloc (.cells #[] 34)) w.heap.size (fun _ => True) (.slice (some ⟨w.heap.size, 0, none⟩) 0 0) [] from
      ⟨fun _ _ => trivial, [], World.ownsRow_lit (base := w.heap.size) (e := 34) (size := 4) w #[] 0 (Nat.le_refl _) (by decide) (by rfl), Reps.none _ _⟩)
    have hw0 : IntKind.i64.wrap ((l.length : Int) - 1) = (l.length : Int) - 1 := IntWalk.i64_in _ (by omega)
    clear hr h100 hm
    go_enter Try.func4, Try.ntmps4
    go_wp2
    clear hw0 hz
    go_loopg [5, 6, 7] (l.length + 1) (fun gg v5 v6 _ wr => ∃ (m : Nat) (z : Int), v6 = .int .i64 z ∧ Lk (z = (m : Int) - 1 ∧ m ≤ l.length) ∧ Lk (m + 1 ≤ gg) ∧ Lk (Far l m) ∧ Lk (kPt.R 34 wr w.heap.size (fun _ => True) v5 (bk l m)) ∧ Lk (Below w.heap.size w wr))
    case atStart => exact ⟨l.length, _, rfl, ⟨rfl, Nat.le_refl _⟩, ⟨Nat.le_refl _⟩, ⟨fun i j h1 h2 h3 => by omega⟩, ⟨by rw [bk_all]; exact HR0.out⟩, HBa⟩
    case round =>
      clear HR0 HBa
      obtain ⟨m, z, rfl, HZ, HG, HF, HRB, HB⟩ := hrel
      cases m with
      | zero =>
        obtain rfl : z = -1 := by have := HZ.out; omega
        obtain ⟨A5, c5, rfl, _, hC5⟩ := Kd.R_reads HRB.out
        have HC5 := Lk.mk hC5
        have hln : (bk l 0).length = l.length := by rw [bk_length]; omega
        have HOK := Lk.mk (show okW words (bk l 0) = okW words l by rw [bk_zero, rev_ok])
        have HW1 := Lk.mk (whole_any A c l words wr (Kd.C_below HR.out HB.out) HL.out)
        have HW2 := Lk.mk (fun W (hb : Below wr.heap.size wr W) => whole_any A5 c5 (bk l 0) words W (Kd.C_below HC5.out hb) (by rw [hln]; exact HL.out))
        rw [HOK.out] at HW2
        have HS1 := Lk.mk (fun W (hb : Below wr.heap.size wr W) => asum_any A c l 6 W (Kd.C_below (Kd.C_below HR.out HB.out) hb) HL.out)
        have HS2 := Lk.mk (fun W (hb : Below wr.heap.size wr W) => asum_any A5 c5 (bk l 0) 6 W (Kd.C_below HC5.out hb) (by rw [hln]; exact HL.out))
        rw [show sumL 6 (bk l 0) = sumL 6 l by rw [bk_zero, rev_sumL]] at HS2
        have HDT := Lk.mk (show ∀ k a k' a', WR words l (okW words l) k a → WR words (bk l 0) (okW words l) k' a' → k' = k ∧ a' = a from fun k a k' a' h h' => rev_wr HF.out.apart h (by rw [← bk_zero]; exact h'))
        clear hC5 hln HC5 HRB HOK
        generalize sumL 6 l = t at *
        go_wp2_with (first
          | (go_at_call 12; (with_reducible refine HW1.out.mono ?_); rintro e w1 ⟨k, a, rfl, hwr, hb⟩; have HWR := Lk.mk hwr; have HB1 := Lk.mk hb; clear hwr hb)
          | (go_at_call 12; (with_reducible refine (HW2.out _ HB1.out).mono ?_); rintro e w2 ⟨k', a', rfl, hwr, hb⟩; obtain ⟨rfl, rfl⟩ := HDT.out _ _ _ _ HWR.out hwr; have HB1 := Lk.mk (below_then HB1.out HB1.out.size hb); clear hwr hb)
          | (go_at_call 13; (with_reducible refine (HS1.out _ HB1.out).mono ?_); rintro e w3 ⟨rfl, hb⟩; have HB1 := Lk.mk (below_then HB1.out HB1.out.size hb); clear hb)
          | (go_at_call 13; (with_reducible refine (HS2.out _ HB1.out).mono ?_); rintro e w3 ⟨rfl, hb⟩; have HB1 := Lk.mk (below_then HB1.out HB1.out.size hb); clear hb)
          | (go_at_call 11; (with_reducible refine (HAW.out _).mono ?_); rintro e w4 ⟨rfl, hb⟩; have HB1 := Lk.mk (below_then HB1.out HB1.out.size hb); clear hb))
        go_ret
        exact ⟨rfl, below_then HB.out HB.out.size HB1.out⟩
      | succ i =>
        obtain rfl : z = (i : Int) := by have := HZ.out; omega
        have hi0 : ¬ (i : Int) < 0 := by omega
        have HI := Lk.mk (show i < l.length by have := HZ.out; omega)
        go_wp2
        go_loopg [7] i (fun gg v7 wr2 => ∃ k : Nat, v7 = .int .i64 k ∧ Lk (k ≤ i ∧ i - k ≤ gg) ∧ Lk (∀ j, j < k → key (l.getD j dQ) ≠ key (l.getD i dQ)) ∧ Lk (kPt.R 34 wr2 w.heap.size (fun _ => True) _ (bk l (i + 1))) ∧ Lk (Below w.heap.size w wr2))
        case atStart => exact ⟨0, rfl, ⟨Nat.zero_le _, Nat.le_refl _⟩, ⟨fun j hj => by omega⟩, HRB, HB⟩
        case round =>
          clear HRB HB
          obtain ⟨k, rfl, HK, HN, HRB, HB⟩ := hrel
          obtain ⟨k1, k2⟩ := HK.out
          by_cases hlt : k < i
          · have hBd := below_then HB.out HB.out.size (below_drew (Below.refl _ _))
            have HCd := Lk.mk (Kd.C_below HR.out hBd)
            have HRd := Lk.mk (Kd.R_below HRB.out (below_drew (Below.refl _ _)))
            have HBd := Lk.mk hBd
            have hltz : (k : Int) < (i : Int) := by omega
            have hn100 : (i : Int) ≤ 100 := by have := HI.out; have := HL.out; omega
            have hil : (i : Int) < (l.length : Int) := by have := HI.out; omega
            have hkl : (k : Int) < (l.length : Int) := by omega
            obtain ⟨ad, hA, _, _, p2, _⟩ := kPt_at HCd.out k (by omega)
            obtain ⟨ad', hA', _, _, q2, _⟩ := kPt_at HCd.out i (by omega)
            subst hA
            obtain rfl : ad = ad' := Option.some.inj hA'
            have HX := Lk.mk (show key (l.getD k dQ) = (l.getD k dQ).2.2.1 ∧ key (l.getD i dQ) = (l.getD i dQ).2.2.1 from ⟨rfl, rfl⟩)
            have HK2 := Lk.mk (show k + 1 ≤ i ∧ i - (k + 1) < i - k by omega)
            generalize (l.getD k dQ).2.2.1 = X at *
            generalize (l.getD i dQ).2.2.1 = Y at *
            clear hA' hBd hlt k1 k2
            by_cases he : X = Y
            · subst he
              go_wp2
              go_region
              go_wp2_with (go_at_call 11; (with_reducible refine (HAW.out _).mono ?_); rintro e w4 ⟨rfl, hb⟩; have HB1 := Lk.mk (below_then HBd.out HBd.out.size hb); clear hb)
              go_ret
              exact ⟨rfl, HB1.out⟩
            · have heb : (X == Y) = false := beq_false_of_ne he
              have HN2 := Lk.mk (show ∀ j, j < k + 1 → key (l.getD j dQ) ≠ key (l.getD i dQ) from fun j hj => by
                by_cases e : j = k
                · subst e; rw [HX.out.1, HX.out.2]; exact he
                · exact HN.out j (by omega))
              clear he
              go_wp2
              go_region
              go_wp2
              go_roundg (i - (k + 1))
              case measure => have := HK2.out; have := HK.out; omega
              case rel => exact ⟨k + 1, by go_num, ⟨HK2.out.1, Nat.le_refl _⟩, HN2, HRd, HBd⟩
          · have hltz : ¬ (k : Int) < (i : Int) := by omega
            obtain rfl : k = i := by omega
            have hil : (k : Int) < (l.length : Int) := by have := HI.out; omega
            have hn100 : (k : Int) ≤ 100 := by have := HI.out; have := HL.out; omega
            obtain ⟨ad, hA, p0, p1, p2, p3⟩ := kPt_at (Kd.C_below HR.out HB.out) k HI.out
            subst hA
            have HF2 := Lk.mk (show Far l k from fun i j h1 h2 h3 => by
              by_cases e : j = k
              · subst e; exact HN.out i h1
              · exact HF.out i j h1 (by omega) h3)
            have HBN := Lk.mk (bk_next l k HI.out)
            have HLN := Lk.mk (show ((bk l (k + 1)).length + 1) * 32 ≤ 140737488355328 by rw [bk_length]; have := HL.out; omega)
            generalize l.getD k dQ = X at *
            obtain ⟨X0, X1, X2, X3⟩ := X
            dsimp only at p0 p1 p2 p3
            clear hlt k1 k2
            go_wp2_with (at_builtin
                         refine Kd.R_append (w0 := w) kPt w.heap.size rfl _ _ 30 34 _ 32 rfl Try.underlying30 infoPt rfl (show 0 < (4 : Nat) from by decide) (show 0 < (32 : Nat) from by decide) u5 (bk l (k + 1)) (X0, (X1, (X2, X3))) [.int .u8 X0, .int .i64 X1, .int .i64 X2, .int .i64 X3] (fun _ => True) (fun _ => False) rfl ?q3 ?q1 (fun _ h => h.elim) (fun _ _ => trivial) HRB.out HB.out HB.out.size ?q2 ?_
                         case q1 => exact ⟨[_], [_, _, _], rfl, rfl, [_], [_, _], rfl, rfl, [_], [_], rfl, rfl, rfl⟩
                         case q2 => exact HLN.out
                         case q3 => simp [go_sem]
                         intro v4 w4 hR4 hb4 _ _
                         rw [HBN.out] at hR4
                         have HR4 := Lk.mk hR4
                         have HB4 := Lk.mk hb4
                         clear hR4 hb4)
            go_roundg (k + 1)
            case measure => have := HG.out; omega
            case rel => exact ⟨k, (k : Int) - 1, by first | rfl | go_num, ⟨rfl, Nat.le_of_lt HI.out⟩, ⟨Nat.le_refl _⟩, HF2, HR4, HB4⟩
end Go.Proofs.Ytcepafllgjnngaa
