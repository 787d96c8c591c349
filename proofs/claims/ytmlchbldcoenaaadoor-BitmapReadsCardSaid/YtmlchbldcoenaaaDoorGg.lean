/-
  The walks of bitmap.Read and of the reference's Read; conditions: the text is one.
-/
import Derived.Test.YtmlchbldcoenaaaDoorG4
import Derived.Test.YtmlchbldcoenaaaDoorGb
import Derived.Test.YtmlchbldcoenaaaDoorGc
namespace Go.Proofs.YtmlchbldcoenaaaDoor
open Go.RowKit Go.Proofs.YtmlchbldcoenaaaDoorW.PrintWords

theorem byte_at (s : ByteArray) (k : Nat) (h : k < s.size) : ((s[k]'h).toNat : Int) = (bytesOf s).getD k 0 := by
  have h1 := rd_bytesOf s (k : Int)
  have h2 := bt_at s (k : Int) (by rw [Int.toNat_natCast]; exact h)
  rw [rd_n] at h1
  rw [h1, ← h2]
  simp
theorem byte_rng (s : ByteArray) (k : Nat) : 0 ≤ (bytesOf s).getD k 0 ∧ (bytesOf s).getD k 0 ≤ 255 := by
  have h1 := rd_bytesOf s (k : Int)
  rw [rd_n] at h1
  rw [h1]; exact bt_range s _
set_option maxRecDepth 100000 in
set_option maxHeartbeats 2000000 in
theorem read_any (s : ByteArray) (w : World) (hs : s.size ≤ 9223372036854775807) :
    Calls Tryd.prog 44 #[.string s] w fun e w' => ∃ v, e = .returned (.tuple #[v, .int .i64 (Bm.readE (bytesOf s))]) ∧ w'.ownsRow w.heap.size 23 1 v (Bm.ofL (Bm.readL (bytesOf s))).length (nums .u64 (Bm.ofL (Bm.readL (bytesOf s)))) ∧ Below w.heap.size w w' := by
  have hl := bytesOf_length s
  by_cases h4 : 4096 < s.size
  · have h4z : (4096 : Int) < (s.size : Int) := by omega
    have HE := Lk.mk (Bm.readE_long (bs := bytesOf s) (by omega))
    clear hl
    go_enter Tryd.func44, Tryd.ntmps44
    go_wp2
    go_ret2
    obtain ⟨e1, e2⟩ := HE.out
    rw [e1, e2]
    exact ⟨_, rfl, own_nil _ _ _ _, Below.refl _ _⟩
  · have h4z : ¬ (4096 : Int) < (s.size : Int) := by omega
    have HL := Lk.mk hl
    clear hl
    go_enter Tryd.func44, Tryd.ntmps44
    go_wp2
    go_loopg [4, 11] s.size (fun gg v4 v11 wr => ∃ k : Nat, k ≤ s.size ∧ s.size - k ≤ gg ∧ v11 = .int .i64 k ∧ Lk (∀ j, j < k → (bytesOf s).getD j 0 = 48 ∨ (bytesOf s).getD j 0 = 49) ∧ Lk (wr.ownsRow w.heap.size 3 1 v4 (Bm.onesTo (bytesOf s) k).length (nums .i64 (Bm.onesTo (bytesOf s) k))) ∧ Lk (Below w.heap.size w wr))
    case atStart => exact ⟨0, by omega, by omega, rfl, ⟨fun j hj => absurd hj (by omega)⟩, ⟨own_nil _ _ _ _⟩, ⟨Below.refl _ _⟩⟩
    case round =>
      obtain ⟨k, hk, hg, rfl, HE, HO, HB⟩ := hrel
      obtain ⟨wo, rfl⟩ : ∃ wo : World, wo = wr := ⟨_, rfl⟩
      by_cases hlt : k < s.size
      · have hkz : (k : Int) < (s.size : Int) := by omega
        have hbt := byte_at s k hlt
        have hrg := byte_rng s k
        have HN := Lk.mk (show ((bytesOf s).getD k 0 = 48 ∨ (bytesOf s).getD k 0 = 49) → ∀ j, j < k + 1 → (bytesOf s).getD j 0 = 48 ∨ (bytesOf s).getD j 0 = 49 from fun h j hj => by
          by_cases e : j = k
          · subst e; exact h
          · exact HE.out j (by omega))
        have HX := Lk.mk (Bm.onesTo_next (bytesOf s) k)
        have HOL := Lk.mk (Bm.onesTo_length (bytesOf s) k)
        have HBAD := Lk.mk (fun h => Bm.readE_bad (bs := bytesOf s) (by rw [HL.out]; exact h4) k (by rw [HL.out]; exact hlt) h)
        generalize (bytesOf s).getD k 0 = x at *
        by_cases h48 : x = 48
        · subst h48
          go_wp2
          go_roundg (s.size - (k + 1))
          case measure => omega
          case rel => exact ⟨k + 1, by omega, by omega, by go_num, ⟨HN.out (by first | exact .inl rfl | trivial | simp)⟩, ⟨by rw [HX.out, if_neg (by decide)]; exact HO.out⟩, HB⟩
        · by_cases h49 : x = 49
          · subst h49
            go_wp2_with (at_builtin; refine print_append_num (w0 := w) w.heap.size rfl _ _ 34 3 .i64 8 rfl Tryd.underlying34 info3 (by decide) _ (Bm.onesTo (bytesOf s) k) (k : Int) rfl rfl ?q1 ?q3 ?q4 ?q5 ?_)
            case q1 => exact HO.out
            case q3 => exact HB.out
            case q4 => exact HB.out.size
            case q5 => have := HOL.out; omega
            intro v1 w1 hown hb _ _
            have HO1 := Lk.mk hown
            have HB1 := Lk.mk hb
            clear hown hb
            go_wp2
            go_roundg (s.size - (k + 1))
            case measure => omega
            case rel => exact ⟨k + 1, by omega, by omega, by go_num, ⟨HN.out (by first | exact .inr rfl | trivial | simp)⟩, ⟨by rw [HX.out, if_pos (by first | rfl | trivial), List.length_append]; exact HO1.out⟩, HB1⟩
          · have e48 : (x == 48) = false := by simpa using h48
            have e49 : (x == 49) = false := by simpa using h49
            have n48 : (x != 48) = true := by simpa using h48
            have n49 : (x != 49) = true := by simpa using h49
            have HQ := Lk.mk (HBAD.out ⟨h48, h49⟩)
            clear h48 h49 HBAD HX HN
            go_wp2
            go_ret2
            obtain ⟨e1, e2⟩ := HQ.out
            rw [e1, e2]
            exact ⟨_, rfl, own_nil _ _ _ _, HB.out⟩
      · have hkz : ¬ (k : Int) < (s.size : Int) := by omega
        obtain rfl : k = s.size := by omega
        have HQ := Lk.mk (Bm.readE_good (bs := bytesOf s) (by rw [HL.out]; exact h4) (by rw [HL.out]; exact HE.out))
        rw [HL.out] at HQ
        generalize Bm.onesTo (bytesOf s) s.size = on at *
        obtain ⟨A1, c1, rfl, hr1⟩ := own_reads HO.out
        have HOf := Lk.mk (of_any A1 c1 on wo hr1)
        clear hr1
        go_wp2_with (go_at_call 32; (with_reducible refine (HOf.out).mono ?_); rintro e w1 ⟨v1, rfl, ho, hb⟩; have H1 := Lk.mk (own_weaken ho HB.out.size); have HB1 := Lk.mk (below_then HB.out HB.out.size hb); clear ho hb)
        go_ret2
        obtain ⟨e1, e2⟩ := HQ.out
        rw [e1, e2]
        exact ⟨_, rfl, H1.out, HB1.out⟩
set_option maxRecDepth 100000 in
set_option maxHeartbeats 2000000 in
theorem refRead_any (s : ByteArray) (w : World) (hs : s.size ≤ 9223372036854775807) :
    Calls Tryd.prog 45 #[.string s] w fun e w' => ∃ v, e = .returned (.tuple #[v, .int .i64 (Bm.readE (bytesOf s))]) ∧ w'.ownsRow w.heap.size 3 1 v (Bm.readL (bytesOf s)).length (nums .i64 (Bm.readL (bytesOf s))) ∧ Below w.heap.size w w' := by
  have hl := bytesOf_length s
  by_cases h4 : 4096 < s.size
  · have h4z : (4096 : Int) < (s.size : Int) := by omega
    have HE := Lk.mk (Bm.readE_long (bs := bytesOf s) (by omega))
    clear hl
    go_enter Tryd.func45, Tryd.ntmps45
    go_wp2
    go_ret2
    obtain ⟨e1, e2⟩ := HE.out
    rw [e1, e2]
    exact ⟨_, rfl, own_lit w w.heap.size 3 .i64 [] (Nat.le_refl _) (by simp), below_alloc (Below.refl _ _) _⟩
  · have h4z : ¬ (4096 : Int) < (s.size : Int) := by omega
    have HL := Lk.mk hl
    clear hl
    go_enter Tryd.func45, Tryd.ntmps45
    go_wp2
    go_loopg [4, 5] s.size (fun gg v4 v11 wr => ∃ k : Nat, k ≤ s.size ∧ s.size - k ≤ gg ∧ v11 = .int .i64 k ∧ Lk (∀ j, j < k → (bytesOf s).getD j 0 = 48 ∨ (bytesOf s).getD j 0 = 49) ∧ Lk (wr.ownsRow w.heap.size 3 1 v4 (Bm.onesTo (bytesOf s) k).length (nums .i64 (Bm.onesTo (bytesOf s) k))) ∧ Lk (Below w.heap.size w wr))
    case atStart => exact ⟨0, by omega, by omega, rfl, ⟨fun j hj => absurd hj (by omega)⟩, ⟨own_lit w w.heap.size 3 .i64 [] (Nat.le_refl _) (by simp)⟩, ⟨below_alloc (Below.refl _ _) _⟩⟩
    case round =>
      obtain ⟨k, hk, hg, rfl, HE, HO, HB⟩ := hrel
      obtain ⟨wo, rfl⟩ : ∃ wo : World, wo = wr := ⟨_, rfl⟩
      by_cases hlt : k < s.size
      · have hkz : (k : Int) < (s.size : Int) := by omega
        have hbt := byte_at s k hlt
        have hrg := byte_rng s k
        have HN := Lk.mk (show ((bytesOf s).getD k 0 = 48 ∨ (bytesOf s).getD k 0 = 49) → ∀ j, j < k + 1 → (bytesOf s).getD j 0 = 48 ∨ (bytesOf s).getD j 0 = 49 from fun h j hj => by
          by_cases e : j = k
          · subst e; exact h
          · exact HE.out j (by omega))
        have HX := Lk.mk (Bm.onesTo_next (bytesOf s) k)
        have HOL := Lk.mk (Bm.onesTo_length (bytesOf s) k)
        have HBAD := Lk.mk (fun h => Bm.readE_bad (bs := bytesOf s) (by rw [HL.out]; exact h4) k (by rw [HL.out]; exact hlt) h)
        generalize (bytesOf s).getD k 0 = x at *
        by_cases h48 : x = 48
        · subst h48
          go_wp2
          go_roundg (s.size - (k + 1))
          case measure => omega
          case rel => exact ⟨k + 1, by omega, by omega, by go_num, ⟨HN.out (by first | exact .inl rfl | trivial | simp)⟩, ⟨by rw [HX.out, if_neg (by decide)]; exact HO.out⟩, HB⟩
        · by_cases h49 : x = 49
          · subst h49
            go_wp2_with (at_builtin; refine print_append_num (w0 := w) w.heap.size rfl _ _ 34 3 .i64 8 rfl Tryd.underlying34 info3 (by decide) _ (Bm.onesTo (bytesOf s) k) (k : Int) rfl rfl ?q1 ?q3 ?q4 ?q5 ?_)
            case q1 => exact HO.out
            case q3 => exact HB.out
            case q4 => exact HB.out.size
            case q5 => have := HOL.out; omega
            intro v1 w1 hown hb _ _
            have HO1 := Lk.mk hown
            have HB1 := Lk.mk hb
            clear hown hb
            go_wp2
            go_roundg (s.size - (k + 1))
            case measure => omega
            case rel => exact ⟨k + 1, by omega, by omega, by go_num, ⟨HN.out (by first | exact .inr rfl | trivial | simp)⟩, ⟨by rw [HX.out, if_pos (by first | rfl | trivial), List.length_append]; exact HO1.out⟩, HB1⟩
          · have e48 : (x == 48) = false := by simpa using h48
            have e49 : (x == 49) = false := by simpa using h49
            have n48 : (x != 48) = true := by simpa using h48
            have n49 : (x != 49) = true := by simpa using h49
            have HQ := Lk.mk (HBAD.out ⟨h48, h49⟩)
            clear h48 h49 HBAD HX HN
            go_wp2
            go_ret2
            obtain ⟨e1, e2⟩ := HQ.out
            rw [e1, e2]
            exact ⟨_, rfl, own_lit wo w.heap.size 3 .i64 [] HB.out.size (by simp), below_alloc HB.out _⟩
      · have hkz : ¬ (k : Int) < (s.size : Int) := by omega
        obtain rfl : k = s.size := by omega
        have HQ := Lk.mk (Bm.readE_good (bs := bytesOf s) (by rw [HL.out]; exact h4) (by rw [HL.out]; exact HE.out))
        rw [HL.out] at HQ
        go_wp2
        go_ret2
        obtain ⟨e1, e2⟩ := HQ.out
        rw [e1, e2]
        exact ⟨_, rfl, HO.out, HB.out⟩
end Go.Proofs.YtmlchbldcoenaaaDoor
