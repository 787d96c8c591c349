/-
  Several texts as one.
-/
import Derived.Test.YtcepafllgjnngaaDoorMs
import Derived.Test.YtcepafllgjnngaaDoorSb
import Derived.Test.YtcepafllgjnngaaDoorDl
import Derived.Test.YtcepafllgjnngaaDoorMp
/-
  Plain: words that are raised, each once.
-/
namespace Mv

/-- a word that isn't 0 is raised -/
def rz (b : Int) (W : List Int) (a : Nat) : List Int := if W.getD a 0 = 0 then W else W.set a (W.getD a 0 + b)
def rzs (b : Int) (W : List Int) (l : List Nat) : List Int := l.foldl (rz b) W
theorem getD_set (W : List Int) (a j : Nat) (x : Int) (ha : a < W.length) : (W.set a x).getD j 0 = if j = a then x else W.getD j 0 := by
  rw [List.getD_eq_getElem?_getD, List.getElem?_set, List.getD_eq_getElem?_getD]
  by_cases h : a = j
  · subst h; rw [if_pos rfl, if_pos ha, if_pos rfl]; rfl
  · rw [if_neg h, if_neg (fun e => h e.symm)]
theorem rz_len (b : Int) (W : List Int) (a : Nat) : (rz b W a).length = W.length := by unfold rz; split <;> simp
theorem rzs_len (b : Int) (l : List Nat) : ∀ W : List Int, (rzs b W l).length = W.length := by
  induction l with
  | nil => intro W; rfl
  | cons a l ih => intro W; show (rzs b (rz b W a) l).length = _; rw [ih, rz_len]
theorem rz_get (b : Int) (W : List Int) (a j : Nat) (ha : a < W.length) : (rz b W a).getD j 0 = if j = a ∧ W.getD a 0 ≠ 0 then W.getD a 0 + b else W.getD j 0 := by
  unfold rz
  by_cases h : W.getD a 0 = 0
  · rw [if_pos h, if_neg (fun e => e.2 h)]
  · rw [if_neg h, getD_set _ _ _ _ ha]
    by_cases e : j = a
    · rw [if_pos e, if_pos ⟨e, h⟩]
    · rw [if_neg e, if_neg (fun h => e h.1)]
theorem rzs_get (b : Int) (l : List Nat) : ∀ (W : List Int) (j : Nat), l.Nodup → (∀ a ∈ l, a < W.length) → (rzs b W l).getD j 0 = if j ∈ l ∧ W.getD j 0 ≠ 0 then W.getD j 0 + b else W.getD j 0 := by
  induction l with
  | nil => intro W j _ _; rw [if_neg (fun h => by simp at h)]; rfl
  | cons a l ih =>
    intro W j hn hl
    have ha := hl a List.mem_cons_self
    obtain ⟨hna, hnl⟩ := List.nodup_cons.1 hn
    show (rzs b (rz b W a) l).getD j 0 = _
    rw [ih _ j hnl (fun c hc => by rw [rz_len]; exact hl c (List.mem_cons_of_mem _ hc)), rz_get b W a j ha]
    by_cases e : j = a
    · subst e
      rw [if_neg (fun h => hna h.1)]
      by_cases h0 : W.getD j 0 = 0
      · rw [if_neg (fun h => h.2 h0), if_neg (fun h => h.2 h0)]
      · rw [if_pos ⟨rfl, h0⟩, if_pos ⟨List.mem_cons_self, h0⟩]
    · rw [if_neg (fun h : j = a ∧ _ => e h.1)]
      by_cases hm : j ∈ l ∧ W.getD j 0 ≠ 0
      · rw [if_pos hm, if_pos ⟨List.mem_cons_of_mem _ hm.1, hm.2⟩]
      · rw [if_neg hm, if_neg (fun h => by rcases List.mem_cons.1 h.1 with h1 | h1; exact e h1; exact hm ⟨h1, h.2⟩)]
/-- up to k of a row of places -/
theorem rzs_snoc (b : Int) (W : List Int) (l : List Nat) (a : Nat) : rzs b W (l ++ [a]) = rz b (rzs b W l) a := by unfold rzs; rw [List.foldl_append]; rfl
theorem rzs_app (b : Int) (W : List Int) (l m : List Nat) : rzs b W (l ++ m) = rzs b (rzs b W l) m := by unfold rzs; rw [List.foldl_append]
end Mv

/-
  Plain: the places of a walk's links and pointers; conditions: none.
-/
namespace Go.Proofs.YtcepafllgjnngaaDoor
open Go.RowKit Go.Proofs.YtcepafllgjnngaaDoorW.PrintWords

theorem walk_ind {st : Nat → Option (Sl.Fr × Nat)} {hi : Nat} (hu : Wk.Up st) {P : Nat → List Sl.Fr → Prop} (h0 : ∀ a, ¬ a < hi → P a []) (h1 : ∀ a x e l, a < hi → st a = some (x, e) → Wk.walk st hi e = some l → P e l → P a (x :: l)) : ∀ n a l, hi - a ≤ n → Wk.walk st hi a = some l → P a l := by
  intro n
  induction n with
  | zero =>
    intro a l hn h
    have hlt : ¬ a < hi := by omega
    rw [Wk.walk_end hlt] at h
    obtain rfl := Option.some.inj h
    exact h0 a hlt
  | succ n ih =>
    intro a l hn h
    by_cases hlt : a < hi
    · cases hs : st a with
      | none => rw [Wk.walk_bad hlt hs] at h; cases h
      | some q =>
        obtain ⟨x, e⟩ := q
        rw [Wk.walk_step hu hlt hs] at h
        cases hw : Wk.walk st hi e with
        | none => rw [hw] at h; cases h
        | some m =>
          rw [hw] at h
          obtain rfl := Option.some.inj h
          have := hu a x e hs
          exact h1 a x e m hlt hs hw (ih e m (by omega) hw)
    · rw [Wk.walk_end hlt] at h
      obtain rfl := Option.some.inj h
      exact h0 a hlt
/-- the places of a frame's link and pointers -/
def posF (pt : Int → List Int) (x : Sl.Fr) : List Nat := x.1.toNat :: (pt x.2.1).map fun i => (x.1 + 2 + i).toNat
def posL (pt : Int → List Int) (l : List Sl.Fr) : List Nat := l.flatMap (posF pt)
/-- pointer slots are slots, each told once -/
def PtIn (pt : Int → List Int) (ent : List (Int × (List Int × List Int))) : Prop := ∀ f, (pt f).Nodup ∧ ∀ i ∈ pt f, 0 ≤ i ∧ i + 2 < tWords ent f
theorem posF_in {pt : Int → List Int} {ent : List (Int × (List Int × List Int))} (hp : PtIn pt ent) {x : Sl.Fr} {a e : Nat} (hx : x.1 = a) (he : (e : Int) = a + tWords ent x.2.1) (hae : a + 2 ≤ e) : ∀ p ∈ posF pt x, a ≤ p ∧ p < e ∧ p ≠ a + 1 := by
  intro p h
  unfold posF at h
  rcases List.mem_cons.1 h with rfl | h
  · rw [hx, Int.toNat_natCast]; omega
  · obtain ⟨i, hi, rfl⟩ := List.mem_map.1 h
    obtain ⟨h1, h2⟩ := (hp x.2.1).2 i hi
    rw [hx]
    omega
theorem posF_nodup {pt : Int → List Int} {ent : List (Int × (List Int × List Int))} (hp : PtIn pt ent) {x : Sl.Fr} {a : Nat} (hx : x.1 = a) : (posF pt x).Nodup := by
  unfold posF
  rw [hx]
  refine List.nodup_cons.2 ⟨fun h => ?_, ?_⟩
  · obtain ⟨i, hi, h⟩ := List.mem_map.1 h
    have := (hp x.2.1).2 i hi
    rw [Int.toNat_natCast] at h
    omega
  · exact List.pairwise_map.2 (List.Pairwise.imp_of_mem (fun {i j} hi hj hne h => by
      have h1 := (hp x.2.1).2 i hi
      have h2 := (hp x.2.1).2 j hj
      exact hne (by omega)) (hp x.2.1).1)
/-- what is so of the places of a walk from a on -/
def PosAt (pt : Int → List Int) (hi a : Nat) (l : List Sl.Fr) : Prop := (∀ p ∈ posL pt l, a ≤ p ∧ p < hi) ∧ (posL pt l).Nodup ∧ ∀ x ∈ l, a ≤ x.1.toNat ∧ x.1.toNat ∈ posL pt l ∧ x.1.toNat + 1 ∉ posL pt l
theorem pos_walk {pt : Int → List Int} {ent : List (Int × (List Int × List Int))} {ws : List Int} {hi : Nat} (hp : PtIn pt ent) (he : EntIn ent) {a : Nat} {l : List Sl.Fr} (h : Wk.walk (stp ws ent hi) hi a = some l) : PosAt pt hi a l := by
  refine walk_ind (P := PosAt pt hi) (stp_says (ws := ws) (hi := hi) he).up (fun a _ => ⟨fun p hp => (by cases hp), List.nodup_nil, fun x hx => (by cases hx)⟩) (fun a x e l hlt hs hw ih => ?_) _ a l (Nat.le_refl _) h
  obtain ⟨h1, ho, hx, he1, he2, he3, _⟩ := stp_some he hs
  have hx1 : x.1 = a := by rw [hx]
  have hx2 : x.2.1 = ws.getD (a + 1) 0 - 1 := by rw [hx]
  have hF := posF_in hp hx1 (by rw [hx2]; exact he1) he2
  have hN := posF_nodup hp hx1
  obtain ⟨i1, i2, i3⟩ := ih
  have hc : posL pt (x :: l) = posF pt x ++ posL pt l := rfl
  have hmem : x.1.toNat ∈ posF pt x := by unfold posF; exact List.mem_cons_self
  refine ⟨fun p hp => ?_, ?_, fun y hy => ?_⟩
  · rw [hc] at hp
    rcases List.mem_append.1 hp with h | h
    · have := hF p h; omega
    · have := i1 p h; omega
  · rw [hc, List.nodup_append]
    refine ⟨hN, i2, fun p hp q hq e => ?_⟩
    have := hF p hp
    have := i1 q hq
    omega
  · rw [hc]
    rcases List.mem_cons.1 hy with rfl | hy
    · refine ⟨by rw [hx1, Int.toNat_natCast]; exact Nat.le_refl _, List.mem_append.2 (.inl hmem), fun h => ?_⟩
      rcases List.mem_append.1 h with h | h
      · have := hF _ h
        rw [hx1, Int.toNat_natCast] at this
        omega
      · have := i1 _ h
        rw [hx1, Int.toNat_natCast] at this
        omega
    · obtain ⟨j1, j2, j3⟩ := i3 y hy
      refine ⟨by omega, List.mem_append.2 (.inr j2), fun h => ?_⟩
      rcases List.mem_append.1 h with h | h
      · have := hF _ h; omega
      · exact j3 h
/-- words that stand elsewhere, those of some places raised by as much -/
structure Sft (ws ws' : List Int) (pos : List Nat) (k k' hi hi' : Nat) : Prop where
  k_ : k ≤ hi
  k2 : k' ≤ hi'
  same : hi - k = hi' - k'
  in_ : hi ≤ ws.length
  in2 : hi' ≤ ws'.length
  len : ws'.length = ws.length
  at_ : ∀ j, k + j < hi → ws'.getD (k' + j) 0 = if k + j ∈ pos ∧ ws.getD (k + j) 0 ≠ 0 then ws.getD (k + j) 0 + ((k' : Int) - k) else ws.getD (k + j) 0
def shF (b : Int) (x : Sl.Fr) : Sl.Fr := (x.1 + b, (x.2.1, if x.2.2 = -1 then -1 else x.2.2 + b))
theorem stp_shift {ws ws' : List Int} {pos : List Nat} {k k' hi hi' : Nat} {ent : List (Int × (List Int × List Int))} (S : Sft ws ws' pos k k' hi hi') (he : EntIn ent) {a e : Nat} {x : Sl.Fr} (ha : k ≤ a) (hs : stp ws ent hi a = some (x, e)) (h0 : a ∈ pos) (h1 : a + 1 ∉ pos) :
    stp ws' ent hi' (a - k + k') = some (shF ((k' : Int) - k) x, e - k + k') := by
  obtain ⟨q1, ⟨o1, o2, o3, o4⟩, rfl, q2, q3, q4, q5⟩ := stp_some he hs
  have e0 := S.at_ (a - k) (by omega)
  have e1 := S.at_ (a + 1 - k) (by omega)
  rw [show k + (a - k) = a by omega] at e0
  rw [show k + (a + 1 - k) = a + 1 by omega, if_neg (fun h => h1 h.1)] at e1
  rw [show k' + (a + 1 - k) = a - k + k' + 1 by omega] at e1
  rw [show k' + (a - k) = a - k + k' by omega] at e0
  have hk := S.k_
  have hk2 := S.k2
  have hsm := S.same
  have hin := S.in_
  have hin2 := S.in2
  have hln := S.len
  dsimp only at q5
  have hl : ws.getD a 0 = if e = hi then 0 else (e : Int) + 1 := by
    by_cases h : e = hi
    · rw [if_pos h] at q5 ⊢; omega
    · rw [if_neg h] at q5 ⊢; omega
  have hl' : ws'.getD (a - k + k') 0 = if e = hi then 0 else (e : Int) + 1 + ((k' : Int) - k) := by
    rw [e0, hl]
    by_cases h : e = hi
    · rw [if_pos h, if_pos h, if_neg (fun h => h.2 rfl)]
    · rw [if_neg h, if_neg h, if_pos ⟨h0, by omega⟩]
  have hC : StpC ws' ent hi' (a - k + k') := by
    refine ⟨by omega, ⟨?_, by rw [e1]; exact o2, by rw [e1]; exact o3, by rw [e1]; omega⟩, by rw [e1]; omega, ?_⟩
    · rw [hl']; split <;> omega
    · rw [hl', e1]
      by_cases h : e = hi
      · rw [if_pos h, if_pos (by omega)]; rfl
      · rw [if_neg h, if_neg (by omega)]; omega
  unfold stp
  rw [if_pos hC, e1, hl']
  unfold shF
  dsimp only
  congr 1
  refine Prod.ext (Prod.ext ?_ (Prod.ext rfl ?_)) ?_
  · show ((a - k + k' : Nat) : Int) = (a : Int) + ((k' : Int) - k); omega
  · show (if e = hi then (0 : Int) else (e : Int) + 1 + ((k' : Int) - k)) - 1 = if ws.getD a 0 - 1 = -1 then -1 else ws.getD a 0 - 1 + ((k' : Int) - k)
    rw [hl]
    by_cases h : e = hi
    · rw [if_pos h, if_pos h, if_pos (by omega)]; rfl
    · rw [if_neg h, if_neg h, if_neg (by omega)]; omega
  · show ((((a - k + k' : Nat) : Int) + tWords ent (ws.getD (a + 1) 0 - 1)).toNat) = e - k + k'
    omega
theorem walk_shift {ws ws' : List Int} {pos : List Nat} {k k' hi hi' : Nat} {ent : List (Int × (List Int × List Int))} (S : Sft ws ws' pos k k' hi hi') (he : EntIn ent) {a : Nat} {l : List Sl.Fr} (ha : k ≤ a) (hah : a ≤ hi) (h : Wk.walk (stp ws ent hi) hi a = some l) (hpos : ∀ x ∈ l, x.1.toNat ∈ pos ∧ x.1.toNat + 1 ∉ pos) :
    Wk.walk (stp ws' ent hi') hi' (a - k + k') = some (l.map (shF ((k' : Int) - k))) := by
  have hk := S.k_
  have hk2 := S.k2
  have hsm := S.same
  refine walk_ind (P := fun a l => k ≤ a → a ≤ hi → (∀ x ∈ l, x.1.toNat ∈ pos ∧ x.1.toNat + 1 ∉ pos) → Wk.walk (stp ws' ent hi') hi' (a - k + k') = some (l.map (shF ((k' : Int) - k)))) (stp_says (ws := ws) (hi := hi) he).up (fun a hlt _ _ _ => ?_) (fun a x e l hlt hs hw ih hka hah hp => ?_) _ a l (Nat.le_refl _) h ha hah hpos
  · exact Wk.walk_end (by omega)
  · obtain ⟨q1, _, hx, q2, q3, q4, q5⟩ := stp_some he hs
    have hx1 : x.1.toNat = a := by rw [hx, Int.toNat_natCast]
    have hq := hp x List.mem_cons_self
    rw [hx1] at hq
    rw [Wk.walk_step (stp_says (ws := ws') (hi := hi') he).up (by omega) (stp_shift S he hka hs hq.1 hq.2), ih (by omega) q4 (fun y hy => hp y (List.mem_cons_of_mem _ hy))]
    rfl
end Go.Proofs.YtcepafllgjnngaaDoor

/-
  Plain: slots of frames that are moved; conditions: none.
-/
namespace Go.Proofs.YtcepafllgjnngaaDoor
open Go.RowKit Go.Proofs.YtcepafllgjnngaaDoorW.PrintWords

theorem tWords_size {ent : List (Int × (List Int × List Int))} {f : Int} (h : 2 ≤ tWords ent f) : tWords ent f = tSize ent f + 2 := by
  unfold tWords at h ⊢
  unfold tSize
  cases hf : tHas ent f with
  | false => rw [hf] at h; simp at h
  | true => simp
/-- a frame of a walk: it stands within the stack; its places are its own -/
structure FrAt (pt : Int → List Int) (ent : List (Int × (List Int × List Int))) (ws : List Int) (k hi : Nat) (pos : List Nat) (x : Sl.Fr) : Prop where
  nn : 0 ≤ x.1
  lo : (k : Int) ≤ x.1
  hi_ : x.1 + tWords ent x.2.1 ≤ hi
  two : 2 ≤ tWords ent x.2.1
  link : x.1.toNat ∈ pos
  slot : ∀ i, 0 ≤ i → i + 2 < tWords ent x.2.1 → ((x.1 + 2 + i).toNat ∈ pos ↔ i ∈ pt x.2.1)
  word : ws.getD x.1.toNat 0 = 0 ∨ (k : Int) < ws.getD x.1.toNat 0
theorem fr_walk {pt : Int → List Int} {ent : List (Int × (List Int × List Int))} {ws : List Int} {hi : Nat} (hp : PtIn pt ent) (he : EntIn ent) {a : Nat} {l : List Sl.Fr} (h : Wk.walk (stp ws ent hi) hi a = some l) : ∀ x ∈ l, FrAt pt ent ws a hi (posL pt l) x := by
  refine walk_ind (P := fun a l => PosAt pt hi a l → ∀ x ∈ l, FrAt pt ent ws a hi (posL pt l) x) (stp_says (ws := ws) (hi := hi) he).up (fun a _ _ x hx => (by cases hx)) (fun a x e l hlt hs hw ih hP => ?_) _ a l (Nat.le_refl _) h (pos_walk hp he h)
  obtain ⟨h1, ⟨o1, o2, o3, o4⟩, hx, he1, he2, he3, he4⟩ := stp_some he hs
  have hx1 : x.1 = a := by rw [hx]
  have hx2 : x.2.1 = ws.getD (a + 1) 0 - 1 := by rw [hx]
  have hx3 : x.2.2 = ws.getD a 0 - 1 := by rw [hx]
  have htw : (e : Int) = a + tWords ent x.2.1 := by rw [hx2]; exact he1
  have hF := posF_in hp hx1 htw he2
  have hPl := pos_walk hp he hw
  have hc : posL pt (x :: l) = posF pt x ++ posL pt l := rfl
  have hmem : x.1.toNat ∈ posF pt x := by unfold posF; exact List.mem_cons_self
  intro y hy
  rcases List.mem_cons.1 hy with rfl | hy
  · refine ⟨by omega, by omega, by omega, by omega, by rw [hc]; exact List.mem_append.2 (.inl hmem), fun i hi0 hi1 => ?_, ?_⟩
    · rw [hc, List.mem_append]
      constructor
      · rintro (h | h)
        · unfold posF at h
          rcases List.mem_cons.1 h with h | h
          · omega
          · obtain ⟨j, hj, hjj⟩ := List.mem_map.1 h
            have := (hp y.2.1).2 j hj
            obtain rfl : j = i := by omega
            exact hj
        · have := hPl.1 _ h; omega
      · intro h
        exact .inl (by unfold posF; exact List.mem_cons_of_mem _ (List.mem_map.2 ⟨i, h, rfl⟩))
    · rw [hx1, Int.toNat_natCast]
      rw [hx3] at he4
      by_cases hh : e = hi
      · rw [if_pos hh] at he4; left; omega
      · rw [if_neg hh] at he4; right; omega
  · have ih' := ih hPl y hy
    refine ⟨ih'.nn, by have := ih'.lo; omega, ih'.hi_, ih'.two, by rw [hc]; exact List.mem_append.2 (.inr ih'.link), fun i hi0 hi1 => ?_, by rcases ih'.word with h | h; exact .inl h; exact .inr (by omega)⟩
    rw [hc, List.mem_append, ← ih'.slot i hi0 hi1]
    refine ⟨fun h => ?_, .inr⟩
    rcases h with h | h
    · have := hF _ h
      have := ih'.lo
      omega
    · exact h
/-- a row of frames that moves, and where to -/
structure Mvd (pt : Int → List Int) (ent : List (Int × (List Int × List Int))) (ws ws' : List Int) (pos : List Nat) (k k' hi hi' : Nat) (F : List Sl.Fr) : Prop where
  S : Sft ws ws' pos k k' hi hi'
  fr : ∀ x ∈ F, FrAt pt ent ws k hi pos x
  big : ws.length ≤ 65536
  has : ∀ f i, 0 ≤ i → i < tSize ent f → (tPtr ent f i = true ↔ i ∈ pt f)
theorem sizeS_at {ent : List (Int × (List Int × List Int))} {x : Sl.Fr} (h0 : 0 ≤ x.1) (h1 : x.1 ≤ 1099511627776) (h2 : 2 ≤ tWords ent x.2.1) : Sl.sizeS (tSize ent) x = tWords ent x.2.1 - 2 := by
  unfold Sl.sizeS
  rw [if_neg (by omega), tWords_size h2]
  have := tWords_size h2
  omega
theorem getD_map_sh {F : List Sl.Fr} {b : Int} {d : Nat} (h : d < F.length) : (F.map (shF b)).getD d Sl.dFr = shF b (F.getD d Sl.dFr) := by
  rw [List.getD_eq_getElem?_getD, List.getElem?_map, List.getD_eq_getElem?_getD, List.getElem?_eq_getElem h]; rfl
theorem hit_shift {ent : List (Int × (List Int × List Int))} {x : Sl.Fr} {a b : Int} (h0 : 0 ≤ x.1) (h1 : x.1 ≤ 1099511627776) (h2 : 0 ≤ x.1 + b) (h3 : x.1 + b ≤ 1099511627776) : Sl.hit (tSize ent) (a + b) (shF b x) = Sl.hit (tSize ent) a x := by
  unfold Sl.hit shF
  dsimp only
  rw [decide_eq_true h0, decide_eq_true h1, decide_eq_true h2, decide_eq_true h3, show (decide (x.1 + b + 2 ≤ a + b)) = decide (x.1 + 2 ≤ a) from decide_eq_decide.2 (by omega), show (decide (a + b - (x.1 + b) - 2 < tSize ent x.2.1)) = decide (a - x.1 - 2 < tSize ent x.2.1) from decide_eq_decide.2 (by omega)]
theorem findAt_shift {ent : List (Int × (List Int × List Int))} {F : List Sl.Fr} {a b : Int} (h : ∀ x ∈ F, 0 ≤ x.1 ∧ x.1 ≤ 1099511627776 ∧ 0 ≤ x.1 + b ∧ x.1 + b ≤ 1099511627776) : Sl.findAt (tSize ent) (F.map (shF b)) (a + b) = Sl.findAt (tSize ent) F a := by
  unfold Sl.findAt
  induction F with
  | nil => rfl
  | cons x F ih =>
    have hx := h x List.mem_cons_self
    rw [List.map_cons, List.findIdx?_cons, List.findIdx?_cons, hit_shift hx.1 hx.2.1 hx.2.2.1 hx.2.2.2, ih (fun y hy => h y (List.mem_cons_of_mem _ hy))]
theorem Mvd.rng {pt : Int → List Int} {ent : List (Int × (List Int × List Int))} {ws ws' : List Int} {pos : List Nat} {k k' hi hi' : Nat} {F : List Sl.Fr} (M : Mvd pt ent ws ws' pos k k' hi hi' F) {x : Sl.Fr} (hx : x ∈ F) : 0 ≤ x.1 ∧ x.1 ≤ 1099511627776 ∧ 0 ≤ x.1 + ((k' : Int) - k) ∧ x.1 + ((k' : Int) - k) ≤ 1099511627776 := by
  have h := M.fr x hx
  have h1 := h.lo
  have h2 := h.hi_
  have h3 := h.two
  have h4 := M.big
  have h5 := M.S.in_
  have h6 := M.S.in2
  have h7 := M.S.len
  have h8 := M.S.same
  have h9 := M.S.k_
  have h10 := M.S.k2
  omega
/-- what a slot has stays where the frames move -/
theorem getV_shift {pt : Int → List Int} {ent : List (Int × (List Int × List Int))} {ws ws' : List Int} {pos : List Nat} {k k' hi hi' : Nat} {F : List Sl.Fr} (M : Mvd pt ent ws ws' pos k k' hi hi' F) {d : Nat} {i : Int} {v : Sl.Vl} (h : getV (tSize ent) (tPtr ent) ws F d i = (v, 0)) : getV (tSize ent) (tPtr ent) ws' (F.map (shF ((k' : Int) - k))) d i = (v, 0) := by
  unfold getV at h
  by_cases ho : Sl.addrOk (tSize ent) F d i = true
  · rw [if_pos ho] at h
    obtain ⟨_, hdl, hi0, hi1⟩ := addrOk_true ho
    rw [Int.toNat_natCast] at h hi1
    have hd : d < F.length := by omega
    have hx : F.getD d Sl.dFr ∈ F := getD_mem _ hd
    have hr := M.rng hx
    have hf := M.fr _ hx
    have hsz := sizeS_at (ent := ent) hr.1 hr.2.1 hf.two
    generalize hxx : F.getD d Sl.dFr = x at *
    have hi2 : i + 2 < tWords ent x.2.1 := by omega
    have h1 := hf.lo
    have h2 := hf.hi_
    have hk := M.S.k_
    have hk2 := M.S.k2
    have hsm := M.S.same
    have hin := M.S.in_
    have hin2 := M.S.in2
    have hln := M.S.len
    have hbig := M.big
    have ho' : Sl.addrOk (tSize ent) (F.map (shF ((k' : Int) - k))) d i = true := by
      unfold Sl.addrOk
      rw [List.length_map, Int.toNat_natCast, getD_map_sh hd, hxx, sizeS_at (ent := ent) (x := shF ((k' : Int) - k) x) (by show 0 ≤ x.1 + _; omega) (by show x.1 + _ ≤ _; omega) hf.two]
      simp only [Bool.and_eq_true, decide_eq_true_eq]
      refine ⟨⟨⟨by omega, by omega⟩, hi0⟩, ?_⟩
      show i < tWords ent x.2.1 - 2
      omega
    unfold getV
    rw [if_pos ho', Int.toNat_natCast, getD_map_sh hd, hxx]
    have hat : (shF ((k' : Int) - k) x).1 + 2 + i = x.1 + 2 + i + ((k' : Int) - k) := by show x.1 + _ + 2 + i = _; omega
    rw [hat, show (shF ((k' : Int) - k) x).2.1 = x.2.1 from rfl]
    rw [if_pos (by omega)] at h
    rw [if_pos (by omega)]
    have hj := M.S.at_ ((x.1 + 2 + i).toNat - k) (by omega)
    rw [show k + ((x.1 + 2 + i).toNat - k) = (x.1 + 2 + i).toNat by omega, show k' + ((x.1 + 2 + i).toNat - k) = (x.1 + 2 + i + ((k' : Int) - k)).toNat by omega] at hj
    have hsl := hf.slot i hi0 hi2
    have hp := M.has x.2.1 i hi0 (by have := tWords_size hf.two; omega)
    by_cases hpt : tPtr ent x.2.1 i = true
    · rw [if_pos hpt] at h ⊢
      have hmem := hsl.2 (hp.1 hpt)
      by_cases hz : ws.getD (x.1 + 2 + i).toNat 0 = 0
      · rw [if_pos hz] at h
        rw [if_neg (fun h : (x.1 + 2 + i).toNat ∈ pos ∧ ws.getD (x.1 + 2 + i).toNat 0 ≠ 0 => h.2 hz)] at hj
        rw [hj, if_pos hz]
        exact h
      · rw [if_neg hz] at h
        rw [if_pos ⟨hmem, hz⟩] at hj
        generalize ws.getD (x.1 + 2 + i).toNat 0 = y at *
        by_cases hb : 4611686018427387904 < y
        · rw [if_pos hb] at h; cases h
        · rw [if_neg hb] at h
          by_cases hfd : Sl.findB (tSize ent) F y = true ∧ Sl.findD (tSize ent) F y ≤ (d : Int)
          · rw [if_pos hfd] at h
            have hfa := findAt_shift (ent := ent) (F := F) (a := y) (b := (k' : Int) - k) (fun z hz => M.rng hz)
            cases hq : Sl.findAt (tSize ent) F y with
            | none => have := Sl.find_no hq; rw [this.2.2] at hfd; exact absurd hfd.1 (by decide)
            | some m =>
              rw [hq] at hfa
              have e1 := Sl.find_yes hq
              have e2 := Sl.find_yes hfa
              have hml : m < F.length := by
                unfold Sl.findAt at hq
                exact (List.findIdx?_eq_some_iff_getElem.1 hq).1
              have hmh : Sl.hit (tSize ent) y (F.getD m Sl.dFr) = true := by
                unfold Sl.findAt at hq
                obtain ⟨_, hh, _⟩ := List.findIdx?_eq_some_iff_getElem.1 hq
                rw [List.getD_eq_getElem?_getD, List.getElem?_eq_getElem hml]
                exact hh
              have hmx : F.getD m Sl.dFr ∈ F := getD_mem _ hml
              have hmr := M.rng hmx
              have hmf := M.fr _ hmx
              have hm1 := hmf.lo
              have hm2 := hmf.hi_
              have hm3 := tWords_size hmf.two
              have hm4 := (hit_iff _ _ _).1 hmh
              rw [getD_map_sh hml] at e2
              rw [hj, if_neg (by omega), if_neg (by omega), e2.1, e2.2.1, e2.2.2]
              rw [e1.1, e1.2.1] at h
              rw [e1.1] at hfd
              rw [if_pos ⟨rfl, hfd.2⟩]
              rw [show y + ((k' : Int) - k) - (shF ((k' : Int) - k) (F.getD m Sl.dFr)).1 - 2 = y - (F.getD m Sl.dFr).1 - 2 by show y + _ - ((F.getD m Sl.dFr).1 + _) - 2 = _; omega]
              exact h
          · rw [if_neg hfd] at h; cases h
    · have hpt' : tPtr ent x.2.1 i = false := by simpa using hpt
      rw [if_neg hpt] at h ⊢
      have hmem : ¬ (x.1 + 2 + i).toNat ∈ pos := fun hh => hpt (hp.2 (hsl.1 hh))
      rw [if_neg (fun hh : (x.1 + 2 + i).toNat ∈ pos ∧ ws.getD (x.1 + 2 + i).toNat 0 ≠ 0 => hmem hh.1)] at hj
      rw [hj]
      exact h
  · rw [if_neg ho] at h; cases h
end Go.Proofs.YtcepafllgjnngaaDoor

/-
  Plain: what a stack's move leaves; moved there and back, and twice; conditions: none.
-/
namespace Go.Proofs.YtcepafllgjnngaaDoor
open Go.RowKit Go.Proofs.YtcepafllgjnngaaDoorW.PrintWords

theorem posL_rev (pt : Int → List Int) (l : List Sl.Fr) : (posL pt l.reverse).Perm (posL pt l) := List.Perm.flatMap_right _ (List.reverse_perm l)
/-- the words behind a move -/
def movW (pt : Int → List Int) (ws : List Int) (F : List Sl.Fr) (k k' n : Nat) : List Int := Mv.rzs ((k' : Int) - k) (putW ws k' ((ws.drop k).take n)) ((posL pt F).map fun p => p - k + k')
theorem movW_len (pt : Int → List Int) (ws : List Int) (F : List Sl.Fr) (k k' n : Nat) (h1 : k + n ≤ ws.length) (h2 : k' + n ≤ ws.length) : (movW pt ws F k k' n).length = ws.length := by
  unfold movW
  rw [Mv.rzs_len, putW_length]
  rw [List.length_take, List.length_drop]; omega
theorem mov_get {pt : Int → List Int} {ws : List Int} {F : List Sl.Fr} {k k' n : Nat} (h1 : k + n ≤ ws.length) (h2 : k' + n ≤ ws.length) (hp : ∀ p ∈ posL pt F, k ≤ p ∧ p < k + n) (hn : (posL pt F).Nodup) (q : Nat) :
    (movW pt ws F k k' n).getD q 0 = if k' ≤ q ∧ q < k' + n then (if q - k' + k ∈ posL pt F ∧ ws.getD (q - k' + k) 0 ≠ 0 then ws.getD (q - k' + k) 0 + ((k' : Int) - k) else ws.getD (q - k' + k) 0) else ws.getD q 0 := by
  have hl : ((ws.drop k).take n).length = n := by rw [List.length_take, List.length_drop]; omega
  have hpl : (putW ws k' ((ws.drop k).take n)).length = ws.length := putW_length _ _ _ (by omega)
  have hnd : ((posL pt F).map fun p => p - k + k').Nodup := List.pairwise_map.2 (List.Pairwise.imp_of_mem (fun {a b} ha hb hne e => hne (by have := hp a ha; have := hp b hb; omega)) hn)
  unfold movW
  rw [Mv.rzs_get _ _ _ _ hnd (fun a ha => by
    obtain ⟨p, hp', rfl⟩ := List.mem_map.1 ha
    have := hp p hp'
    rw [hpl]; omega)]
  rw [putW_get _ _ _ _ (by omega), hl]
  by_cases h : k' ≤ q ∧ q < k' + n
  · rw [if_pos h, if_pos h]
    have hg : ((ws.drop k).take n).getD (q - k') 0 = ws.getD (q - k' + k) 0 := by
      rw [List.getD_eq_getElem?_getD, List.getElem?_take, if_pos (by omega), List.getElem?_drop, List.getD_eq_getElem?_getD, Nat.add_comm]
    rw [hg]
    have hm : q ∈ (posL pt F).map (fun p => p - k + k') ↔ q - k' + k ∈ posL pt F := by
      rw [List.mem_map]
      constructor
      · rintro ⟨p, hp', e⟩
        have := hp p hp'
        rwa [show q - k' + k = p by omega]
      · intro hm
        exact ⟨_, hm, by omega⟩
    by_cases hc : q - k' + k ∈ posL pt F ∧ ws.getD (q - k' + k) 0 ≠ 0
    · rw [if_pos hc, if_pos ⟨hm.2 hc.1, hc.2⟩]
    · rw [if_neg hc, if_neg (fun e => hc ⟨hm.1 e.1, e.2⟩)]
  · rw [if_neg h, if_neg h]
    refine if_neg (fun e => ?_)
    obtain ⟨p, hp', rfl⟩ := List.mem_map.1 e.1
    have := hp p hp'
    omega
/-- all slots can be read -/
def AllOk (ent : List (Int × (List Int × List Int))) (ws : List Int) (F : List Sl.Fr) : Prop := ∀ d i : Nat, d < F.length → (i : Int) < Sl.sizeS (tSize ent) (F.getD d Sl.dFr) → (getV (tSize ent) (tPtr ent) ws F d i).2 = 0
/-- may a stack be moved there -/
def ToOk (ws : List Int) (ent : List (Int × (List Int × List Int))) (x : Int × (Int × Int)) (lo size : Int) : Prop :=
  mayS ws.length x = true ∧ mayS ws.length (lo, (size, lo)) = true ∧ (framesA ws ent x).2 = 0 ∧ AllOk ent ws (framesA ws ent x).1 ∧ x.1 + x.2.1 - x.2.2 ≤ size ∧ (x.1 + x.2.1 ≤ lo ∨ lo + size ≤ x.1)
def toS (x : Int × (Int × Int)) (lo size : Int) : Int × (Int × Int) := (lo, (size, lo + size - (x.1 + x.2.1 - x.2.2)))
noncomputable def toW (pt : Int → List Int) (ws : List Int) (ent : List (Int × (List Int × List Int))) (x : Int × (Int × Int)) (lo size : Int) : List Int := movW pt ws (framesA ws ent x).1 x.2.2.toNat (lo + size - (x.1 + x.2.1 - x.2.2)).toNat (x.1 + x.2.1 - x.2.2).toNat
/-- what a pointer tells of slots -/
def PtOk (pt : Int → List Int) (ent : List (Int × (List Int × List Int))) : Prop := PtIn pt ent ∧ ∀ f i, 0 ≤ i → i < tSize ent f → (tPtr ent f i = true ↔ i ∈ pt f)
theorem framesA_walk {ws : List Int} {ent : List (Int × (List Int × List Int))} {lo size sp : Nat} (h0 : mayS ws.length ((lo : Int), ((size : Int), (sp : Int))) = true) (h : (framesA ws ent ((lo : Int), ((size : Int), (sp : Int)))).2 = 0) : ∃ l, Wk.walk (stp ws ent (lo + size)) (lo + size) sp = some l ∧ framesA ws ent ((lo : Int), ((size : Int), (sp : Int))) = (l.reverse, 0) := by
  cases hl : Wk.walk (stp ws ent (lo + size)) (lo + size) sp with
  | none => rw [framesA_none h0 hl] at h; cases h
  | some l => exact ⟨l, rfl, framesA_some h0 hl⟩
/-- a stack whose words are moved is moved as frames -/
theorem moved {pt : Int → List Int} {ent : List (Int × (List Int × List Int))} (hp : PtOk pt ent) (he : EntIn ent) {ws ws' : List Int} (hbig : ws.length ≤ 65536) {lo size sp lo' size' k' : Nat} (h0 : mayS ws.length ((lo : Int), ((size : Int), (sp : Int))) = true) (h0' : mayS ws.length ((lo' : Int), ((size' : Int), (k' : Int))) = true) (hf : (framesA ws ent ((lo : Int), ((size : Int), (sp : Int)))).2 = 0)
    (hS : Sft ws ws' (posL pt (framesA ws ent ((lo : Int), ((size : Int), (sp : Int)))).1) sp k' (lo + size) (lo' + size')) :
    Mvd pt ent ws ws' (posL pt (framesA ws ent ((lo : Int), ((size : Int), (sp : Int)))).1) sp k' (lo + size) (lo' + size') (framesA ws ent ((lo : Int), ((size : Int), (sp : Int)))).1 ∧ framesA ws' ent ((lo' : Int), ((size' : Int), (k' : Int))) = ((framesA ws ent ((lo : Int), ((size : Int), (sp : Int)))).1.map (shF ((k' : Int) - sp)), 0) := by
  obtain ⟨l, hl, hF⟩ := framesA_walk h0 hf
  rw [hF] at hS ⊢
  dsimp only at hS ⊢
  have hmem : ∀ p, p ∈ posL pt l.reverse ↔ p ∈ posL pt l := fun p => (posL_rev pt l).mem_iff
  have hfr := fr_walk hp.1 he hl
  have hP := pos_walk hp.1 he hl
  refine ⟨⟨hS, fun x hx => ?_, hbig, hp.2⟩, ?_⟩
  · have h := hfr x (List.mem_reverse.1 hx)
    exact ⟨h.nn, h.lo, h.hi_, h.two, (hmem _).2 h.link, fun i h1 h2 => (hmem _).trans (h.slot i h1 h2), h.word⟩
  · have hw := walk_shift hS he (Nat.le_refl sp) hS.k_ hl (fun x hx => ⟨(hmem _).2 (hP.2.2 x hx).2.1, fun h => (hP.2.2 x hx).2.2 ((hmem _).1 h)⟩)
    rw [Nat.sub_self, Nat.zero_add] at hw
    have := framesA_some (ent := ent) (by rw [hS.len]; exact h0') hw
    rw [this, ← List.map_reverse]
theorem allOk_moved {pt : Int → List Int} {ent : List (Int × (List Int × List Int))} {ws ws' : List Int} {pos : List Nat} {k k' hi hi' : Nat} {F : List Sl.Fr} (M : Mvd pt ent ws ws' pos k k' hi hi' F) (h : AllOk ent ws F) : AllOk ent ws' (F.map (shF ((k' : Int) - k))) := by
  intro d i hd hi
  rw [List.length_map] at hd
  have hx : F.getD d Sl.dFr ∈ F := getD_mem _ hd
  have hr := M.rng hx
  have hf := M.fr _ hx
  rw [getD_map_sh hd, sizeS_at (ent := ent) (x := shF ((k' : Int) - k) (F.getD d Sl.dFr)) hr.2.2.1 hr.2.2.2 hf.two] at hi
  have h1 := h d i hd (by rw [sizeS_at (ent := ent) hr.1 hr.2.1 hf.two]; exact hi)
  have h2 := getV_shift M (d := d) (i := i) (v := (getV (tSize ent) (tPtr ent) ws F d i).1) (Prod.ext rfl h1)
  rw [h2]
/-- a place that is raised tells a word of the stack -/
theorem pos_good {pt : Int → List Int} {ent : List (Int × (List Int × List Int))} (hp : PtOk pt ent) (he : EntIn ent) {ws : List Int} (hbig : ws.length ≤ 65536) (hz : Bm.Words ws) {lo size sp : Nat} (h0 : mayS ws.length ((lo : Int), ((size : Int), (sp : Int))) = true) (hf : (framesA ws ent ((lo : Int), ((size : Int), (sp : Int)))).2 = 0) (ha : AllOk ent ws (framesA ws ent ((lo : Int), ((size : Int), (sp : Int)))).1) :
    ∀ p ∈ posL pt (framesA ws ent ((lo : Int), ((size : Int), (sp : Int)))).1, ws.getD p 0 = 0 ∨ ((sp : Int) < ws.getD p 0 ∧ ws.getD p 0 ≤ lo + size) := by
  obtain ⟨l, hl, hF⟩ := framesA_walk h0 hf
  obtain ⟨lo2, size2, sp2, e, m1, m2, m3⟩ := mayS_nat h0
  obtain ⟨rfl, rfl, rfl⟩ : lo = lo2 ∧ size = size2 ∧ sp = sp2 := by
    have e1 := congrArg Prod.fst e
    have e2 := congrArg (fun q => q.2.1) e
    have e3 := congrArg (fun q => q.2.2) e
    dsimp only at e1 e2 e3
    omega
  rw [hF] at ha ⊢
  dsimp only at ha ⊢
  intro p hpp
  have hfr := fr_walk hp.1 he hl
  unfold posL at hpp
  obtain ⟨x, hx, hpx⟩ := List.mem_flatMap.1 hpp
  have hx' := List.mem_reverse.1 hx
  have hxf := hfr x hx'
  have hmemP : ∀ q, q ∈ posL pt l.reverse ↔ q ∈ posL pt l := fun p => (posL_rev pt l).mem_iff
  unfold posF at hpx
  rcases List.mem_cons.1 hpx with rfl | hpx
  · rcases hxf.word with h | h
    · exact .inl h
    · refine .inr ⟨h, ?_⟩
      obtain ⟨b, e, hb, hs⟩ := walk_mem (stp_says (ws := ws) (hi := lo + size) he).up _ _ l (Nat.le_refl _) hl x hx'
      obtain ⟨_, _, hxx, _, _, q4, q5⟩ := stp_some he hs
      have e1 : x.1 = b := by rw [hxx]
      have e2 : x.2.2 = ws.getD b 0 - 1 := by rw [hxx]
      rw [e1, Int.toNat_natCast] at h ⊢
      rw [e2] at q5
      by_cases hh : e = lo + size
      · rw [if_pos hh] at q5; omega
      · rw [if_neg hh] at q5; omega
  · obtain ⟨i, hi, rfl⟩ := List.mem_map.1 hpx
    obtain ⟨i1, i2⟩ := (hp.1 x.2.1).2 i hi
    have htw := tWords_size hxf.two
    obtain ⟨d, hd, hdx⟩ := List.getElem_of_mem hx
    have hdx' : l.reverse.getD d Sl.dFr = x := by rw [List.getD_eq_getElem?_getD, List.getElem?_eq_getElem hd, hdx]; rfl
    have hlo := hxf.lo
    have hhi := hxf.hi_
    have hsz := sizeS_at (ent := ent) hxf.nn (by omega) hxf.two
    obtain ⟨j, rfl⟩ := Int.eq_ofNat_of_zero_le i1
    have hg := ha d j hd (by rw [hdx', hsz]; omega)
    unfold getV at hg
    have hao : Sl.addrOk (tSize ent) l.reverse (d : Int) (j : Int) = true := by
      unfold Sl.addrOk
      rw [Int.toNat_natCast, hdx', hsz]
      simp only [Bool.and_eq_true, decide_eq_true_eq]
      omega
    rw [if_pos hao, Int.toNat_natCast, hdx', if_pos (by omega), if_pos ((hp.2 x.2.1 j (by omega) (by omega)).2 hi)] at hg
    generalize ws.getD (x.1 + 2 + (j : Int)).toNat 0 = y at *
    by_cases hy : y = 0
    · exact .inl hy
    · rw [if_neg hy] at hg
      by_cases hb : 4611686018427387904 < y
      · rw [if_pos hb] at hg; cases hg
      · rw [if_neg hb] at hg
        by_cases hfd : Sl.findB (tSize ent) l.reverse y = true ∧ Sl.findD (tSize ent) l.reverse y ≤ (d : Int)
        · cases hq : Sl.findAt (tSize ent) l.reverse y with
          | none => have := Sl.find_no hq; rw [this.2.2] at hfd; exact absurd hfd.1 (by decide)
          | some m =>
            unfold Sl.findAt at hq
            obtain ⟨hml, hh, _⟩ := List.findIdx?_eq_some_iff_getElem.1 hq
            have hmf := hfr _ (List.mem_reverse.1 (List.getElem_mem hml))
            have h4 := (hit_iff _ _ _).1 hh
            have h5 := hmf.lo
            have h6 := hmf.hi_
            have h7 := tWords_size hmf.two
            right
            omega
        · rw [if_neg hfd] at hg; cases hg
end Go.Proofs.YtcepafllgjnngaaDoor

/-
  Plain: a stack that is moved there and back, and twice; conditions: none.
-/
namespace Go.Proofs.YtcepafllgjnngaaDoor
open Go.RowKit Go.Proofs.YtcepafllgjnngaaDoorW.PrintWords

theorem ext_getD {l m : List Int} (h0 : l.length = m.length) (h : ∀ j, j < l.length → l.getD j 0 = m.getD j 0) : l = m := by
  apply List.ext_getElem h0
  intro j h1 h2
  have := h j h1
  rwa [List.getD_eq_getElem?_getD, List.getElem?_eq_getElem h1, List.getD_eq_getElem?_getD, List.getElem?_eq_getElem h2] at this
theorem mayS_sp {N : Nat} {lo size sp k : Int} (h : mayS N (lo, (size, sp)) = true) (h1 : lo ≤ k) (h2 : k ≤ lo + size) : mayS N (lo, (size, k)) = true := by
  unfold mayS at h ⊢
  simp only [Bool.and_eq_true, decide_eq_true_eq] at h ⊢
  exact ⟨⟨h.1.1, h1⟩, h2⟩
/-- a move in natural numbers -/
structure ToN (ws : List Int) (ent : List (Int × (List Int × List Int))) (lo size sp lo' size' k' : Nat) : Prop where
  may : mayS ws.length ((lo : Int), ((size : Int), (sp : Int))) = true
  may2 : mayS ws.length ((lo' : Int), ((size' : Int), (k' : Int))) = true
  er : (framesA ws ent ((lo : Int), ((size : Int), (sp : Int)))).2 = 0
  all_ : AllOk ent ws (framesA ws ent ((lo : Int), ((size : Int), (sp : Int)))).1
  in_ : lo + size ≤ ws.length
  sp1 : lo ≤ sp
  sp2 : sp ≤ lo + size
  in2 : lo' + size' ≤ ws.length
  k1 : lo' ≤ k'
  k2 : k' + (lo + size - sp) = lo' + size'
  apart : lo + size ≤ lo' ∨ lo' + size' ≤ lo
theorem toN_of {ws : List Int} {ent : List (Int × (List Int × List Int))} {x : Int × (Int × Int)} {lo' size' : Int} (h : ToOk ws ent x lo' size') : ∃ lo size sp a b k : Nat, x = ((lo : Int), ((size : Int), (sp : Int))) ∧ lo' = a ∧ size' = b ∧ toS x lo' size' = ((a : Int), ((b : Int), (k : Int))) ∧ ToN ws ent lo size sp a b k := by
  obtain ⟨h1, h2, h3, h4, h5, h6⟩ := h
  obtain ⟨lo, size, sp, rfl, m1, m2, m3⟩ := mayS_nat h1
  obtain ⟨a, b, c, e, n1, n2, n3⟩ := mayS_nat h2
  have e1 : lo' = a := congrArg Prod.fst e
  have e2 : size' = b := congrArg (fun q => q.2.1) e
  subst e1
  subst e2
  dsimp only at h5 h6
  refine ⟨lo, size, sp, a, b, a + b - (lo + size - sp), rfl, rfl, rfl, ?_, ?_⟩
  · unfold toS
    dsimp only
    refine Prod.ext rfl (Prod.ext rfl ?_)
    show (a : Int) + b - (lo + size - sp) = ((a + b - (lo + size - sp) : Nat) : Int)
    omega
  · exact ⟨h1, mayS_sp h2 (by omega) (by omega), h3, h4, m1, m2, m3, n1, by omega, by omega, by omega⟩
theorem pos_frames {pt : Int → List Int} {ent : List (Int × (List Int × List Int))} (hp : PtOk pt ent) (he : EntIn ent) {ws : List Int} {lo size sp : Nat} (h0 : mayS ws.length ((lo : Int), ((size : Int), (sp : Int))) = true) (hf : (framesA ws ent ((lo : Int), ((size : Int), (sp : Int)))).2 = 0) :
    (∀ p ∈ posL pt (framesA ws ent ((lo : Int), ((size : Int), (sp : Int)))).1, sp ≤ p ∧ p < lo + size) ∧ (posL pt (framesA ws ent ((lo : Int), ((size : Int), (sp : Int)))).1).Nodup := by
  obtain ⟨l, hl, hF⟩ := framesA_walk h0 hf
  rw [hF]
  have hP := pos_walk hp.1 he hl
  exact ⟨fun p h => hP.1 p ((posL_rev pt l).mem_iff.1 h), (posL_rev pt l).nodup_iff.2 hP.2.1⟩
theorem toW_nat {pt : Int → List Int} {ws : List Int} {ent : List (Int × (List Int × List Int))} {lo size sp lo' size' k' : Nat} (h : ToN ws ent lo size sp lo' size' k') : toW pt ws ent ((lo : Int), ((size : Int), (sp : Int))) lo' size' = movW pt ws (framesA ws ent ((lo : Int), ((size : Int), (sp : Int)))).1 sp k' (lo + size - sp) := by
  have h1 := h.k2
  have h2 := h.sp2
  unfold toW
  dsimp only
  rw [Int.toNat_natCast, show ((lo' : Int) + size' - (lo + size - sp)).toNat = k' by omega, show ((lo : Int) + size - sp).toNat = lo + size - sp by omega]
theorem toW_get {pt : Int → List Int} {ent : List (Int × (List Int × List Int))} (hp : PtOk pt ent) (he : EntIn ent) {ws : List Int} {lo size sp lo' size' k' : Nat} (h : ToN ws ent lo size sp lo' size' k') (q : Nat) :
    (toW pt ws ent ((lo : Int), ((size : Int), (sp : Int))) lo' size').getD q 0 = if k' ≤ q ∧ q < lo' + size' then (if q - k' + sp ∈ posL pt (framesA ws ent ((lo : Int), ((size : Int), (sp : Int)))).1 ∧ ws.getD (q - k' + sp) 0 ≠ 0 then ws.getD (q - k' + sp) 0 + ((k' : Int) - sp) else ws.getD (q - k' + sp) 0) else ws.getD q 0 := by
  obtain ⟨hr, hn⟩ := pos_frames hp he h.may h.er
  have h1 := h.k2
  have h2 := h.sp2
  have h3 := h.in_
  have h4 := h.in2
  rw [toW_nat h, mov_get (by omega) (by omega) (fun p hp => by have := hr p hp; omega) hn, show k' + (lo + size - sp) = lo' + size' from h1]
theorem toW_len {pt : Int → List Int} {ent : List (Int × (List Int × List Int))} {ws : List Int} {lo size sp lo' size' k' : Nat} (h : ToN ws ent lo size sp lo' size' k') : (toW pt ws ent ((lo : Int), ((size : Int), (sp : Int))) lo' size').length = ws.length := by
  have h1 := h.k2
  have h2 := h.sp2
  have h3 := h.in_
  have h4 := h.in2
  rw [toW_nat h, movW_len _ _ _ _ _ _ (by omega) (by omega)]
theorem toW_sft {pt : Int → List Int} {ent : List (Int × (List Int × List Int))} (hp : PtOk pt ent) (he : EntIn ent) {ws ws' : List Int} {lo size sp lo' size' k' : Nat} (h : ToN ws ent lo size sp lo' size' k') (hl : ws'.length = ws.length) (hs : ∀ q, k' ≤ q → q < lo' + size' → ws'.getD q 0 = (toW pt ws ent ((lo : Int), ((size : Int), (sp : Int))) lo' size').getD q 0) :
    Sft ws ws' (posL pt (framesA ws ent ((lo : Int), ((size : Int), (sp : Int)))).1) sp k' (lo + size) (lo' + size') := by
  have h1 := h.k2
  have h2 := h.sp2
  have h3 := h.in_
  have h4 := h.in2
  refine ⟨h2, by omega, by omega, h3, by omega, hl, fun j hj => ?_⟩
  rw [hs (k' + j) (by omega) (by omega), toW_get hp he h, if_pos (by omega), show k' + j - k' + sp = sp + j by omega]
theorem posL_sh {pt : Int → List Int} {ent : List (Int × (List Int × List Int))} (hp : PtOk pt ent) {k k' : Nat} {F : List Sl.Fr} (hF : ∀ x ∈ F, (k : Int) ≤ x.1) (j : Nat) : k' + j ∈ posL pt (F.map (shF ((k' : Int) - k))) ↔ k + j ∈ posL pt F := by
  unfold posL
  rw [List.mem_flatMap, List.mem_flatMap]
  constructor
  · rintro ⟨y, hy, h⟩
    obtain ⟨x, hx, rfl⟩ := List.mem_map.1 hy
    refine ⟨x, hx, ?_⟩
    have hk := hF x hx
    unfold posF shF at h
    unfold posF
    dsimp only at h
    rcases List.mem_cons.1 h with h | h
    · exact List.mem_cons.2 (.inl (by omega))
    · obtain ⟨i, hi, e⟩ := List.mem_map.1 h
      have := (hp.1 x.2.1).2 i hi
      exact List.mem_cons_of_mem _ (List.mem_map.2 ⟨i, hi, by omega⟩)
  · rintro ⟨x, hx, h⟩
    refine ⟨_, List.mem_map.2 ⟨x, hx, rfl⟩, ?_⟩
    have hk := hF x hx
    unfold posF at h
    unfold posF shF
    dsimp only
    rcases List.mem_cons.1 h with h | h
    · exact List.mem_cons.2 (.inl (by omega))
    · obtain ⟨i, hi, e⟩ := List.mem_map.1 h
      have := (hp.1 x.2.1).2 i hi
      exact List.mem_cons_of_mem _ (List.mem_map.2 ⟨i, hi, by omega⟩)
/-- behind a move, the stack may be gone through, and moved on -/
theorem to_there {pt : Int → List Int} {ent : List (Int × (List Int × List Int))} (hp : PtOk pt ent) (he : EntIn ent) {ws ws' : List Int} (hbig : ws.length ≤ 65536) {lo size sp lo' size' k' : Nat} (h : ToN ws ent lo size sp lo' size' k') (hS : Sft ws ws' (posL pt (framesA ws ent ((lo : Int), ((size : Int), (sp : Int)))).1) sp k' (lo + size) (lo' + size')) :
    framesA ws' ent ((lo' : Int), ((size' : Int), (k' : Int))) = ((framesA ws ent ((lo : Int), ((size : Int), (sp : Int)))).1.map (shF ((k' : Int) - sp)), 0) ∧ AllOk ent ws' (framesA ws' ent ((lo' : Int), ((size' : Int), (k' : Int)))).1 ∧ ∀ x ∈ (framesA ws ent ((lo : Int), ((size : Int), (sp : Int)))).1, (sp : Int) ≤ x.1 := by
  obtain ⟨M, hF⟩ := moved hp he hbig h.may h.may2 h.er hS
  refine ⟨hF, ?_, fun x hx => (M.fr x hx).lo⟩
  rw [hF]
  exact allOk_moved M h.all_
theorem back_plain {pt : Int → List Int} {ent : List (Int × (List Int × List Int))} (hp : PtOk pt ent) (he : EntIn ent) {ws : List Int} (hbig : ws.length ≤ 65536) (hz : Bm.Words ws) {lo size sp lo' size' k' : Nat} (h : ToN ws ent lo size sp lo' size' k') {ws2 : List Int} (h2 : ws2 = putW (toW pt ws ent ((lo : Int), ((size : Int), (sp : Int))) lo' size') lo (List.replicate size 0)) :
    ToN ws2 ent lo' size' k' lo size sp ∧ ((toW pt ws2 ent ((lo' : Int), ((size' : Int), (k' : Int))) lo size).drop sp).take (lo + size - sp) = (ws.drop sp).take (lo + size - sp) := by
  have h1 := h.k2
  have h3 := h.sp2
  have h4 := h.in_
  have h5 := h.in2
  have h6 := h.sp1
  have h7 := h.k1
  have h8 := h.apart
  have hl1 := toW_len (pt := pt) h
  have hl2 : ws2.length = ws.length := by rw [h2, putW_length _ _ _ (by rw [List.length_replicate]; omega), hl1]
  have hg2 : ∀ q, k' ≤ q → q < lo' + size' → ws2.getD q 0 = (toW pt ws ent ((lo : Int), ((size : Int), (sp : Int))) lo' size').getD q 0 := by
    intro q q1 q2
    rw [h2, putW_get _ _ _ _ (by omega), List.length_replicate, if_neg (by omega)]
  have hS := toW_sft hp he h hl2 hg2
  obtain ⟨hF, hA, hge⟩ := to_there hp he hbig h hS
  have hN : ToN ws2 ent lo' size' k' lo size sp := ⟨by rw [hl2]; exact h.may2, by rw [hl2]; exact h.may, by rw [hF], hA, by omega, h7, by omega, by omega, h6, by omega, by omega⟩
  refine ⟨hN, ?_⟩
  have hl3 := toW_len (pt := pt) hN
  apply ext_getD
  · rw [List.length_take, List.length_drop, List.length_take, List.length_drop]; omega
  · intro j hj
    rw [List.length_take, List.length_drop] at hj
    rw [List.getD_eq_getElem?_getD, List.getElem?_take, if_pos (by omega), List.getElem?_drop, ← List.getD_eq_getElem?_getD, List.getD_eq_getElem?_getD (l := List.take _ _), List.getElem?_take, if_pos (by omega), List.getElem?_drop, ← List.getD_eq_getElem?_getD]
    rw [toW_get hp he hN, if_pos (by omega), show sp + j - sp + k' = k' + j by omega, hF]
    have hm := posL_sh hp (k' := k') hge j
    have hw := hS.at_ j (by omega)
    rw [hw]
    have hgood := pos_good hp he hbig hz h.may h.er h.all_ (sp + j)
    by_cases hc : sp + j ∈ posL pt (framesA ws ent ((lo : Int), ((size : Int), (sp : Int)))).1 ∧ ws.getD (sp + j) 0 ≠ 0
    · have hgd := hgood hc.1
      rw [if_pos hc, if_pos ⟨hm.2 hc.1, by rcases hgd with e | e; exact absurd e hc.2; omega⟩]
      omega
    · rw [if_neg hc, if_neg (fun e => hc ⟨hm.1 e.1, e.2⟩)]
theorem twice_plain {pt : Int → List Int} {ent : List (Int × (List Int × List Int))} (hp : PtOk pt ent) (he : EntIn ent) {ws : List Int} (hbig : ws.length ≤ 65536) (hz : Bm.Words ws) {lo size sp lo' size' k' lo2 size2 k2 k3 : Nat} (h : ToN ws ent lo size sp lo' size' k') {ws1 : List Int} (h1 : ws1 = toW pt ws ent ((lo : Int), ((size : Int), (sp : Int))) lo' size') (g : ToN ws1 ent lo' size' k' lo2 size2 k2) (d : ToN ws ent lo size sp lo2 size2 k3) :
    k2 = k3 ∧ ((toW pt ws1 ent ((lo' : Int), ((size' : Int), (k' : Int))) lo2 size2).drop k2).take (lo2 + size2 - k2) = ((toW pt ws ent ((lo : Int), ((size : Int), (sp : Int))) lo2 size2).drop k2).take (lo2 + size2 - k2) := by
  have a1 := h.k2
  have a2 := h.sp2
  have a3 := g.k2
  have a4 := g.sp2
  have a5 := d.k2
  have a6 := h.in_
  have a7 := g.in2
  obtain rfl : k2 = k3 := by omega
  refine ⟨rfl, ?_⟩
  have hl1 : ws1.length = ws.length := by rw [h1]; exact toW_len h
  have hS := toW_sft hp he h hl1 (fun q _ _ => by rw [h1])
  obtain ⟨hF, hA, hge⟩ := to_there hp he hbig h hS
  have l1 := toW_len (pt := pt) g
  have l2 := toW_len (pt := pt) d
  apply ext_getD
  · rw [List.length_take, List.length_drop, List.length_take, List.length_drop]; omega
  · intro j hj
    rw [List.length_take, List.length_drop] at hj
    rw [List.getD_eq_getElem?_getD, List.getElem?_take, if_pos (by omega), List.getElem?_drop, ← List.getD_eq_getElem?_getD, List.getD_eq_getElem?_getD (l := List.take _ _), List.getElem?_take, if_pos (by omega), List.getElem?_drop, ← List.getD_eq_getElem?_getD]
    have eg := toW_get hp he g (k2 + j)
    rw [if_pos (by omega), show k2 + j - k2 + k' = k' + j by omega, hF] at eg
    have ed := toW_get hp he d (k2 + j)
    rw [if_pos (by omega), show k2 + j - k2 + sp = sp + j by omega] at ed
    rw [eg, ed]
    have hm := posL_sh hp (k' := k') hge j
    have hw := hS.at_ j (by omega)
    rw [hw]
    have hgood := pos_good hp he hbig hz h.may h.er h.all_ (sp + j)
    by_cases hc : sp + j ∈ posL pt (framesA ws ent ((lo : Int), ((size : Int), (sp : Int)))).1 ∧ ws.getD (sp + j) 0 ≠ 0
    · have hgd := hgood hc.1
      rw [if_pos hc, if_pos ⟨hm.2 hc.1, by rcases hgd with e | e; exact absurd e hc.2; omega⟩, if_pos hc]
      omega
    · rw [if_neg hc, if_neg (fun e => hc ⟨hm.1 e.1, e.2⟩), if_neg hc]
end Go.Proofs.YtcepafllgjnngaaDoor
