/- The plain laws of chapter 15, sets and histories (own text). -/
import Derived.Test.YtpiliblfmpgjeaaBd
import Derived.Test.YtpiliblfmpgjeaaPure
namespace Go.Proofs.Ytpiliblfmpgjeaa
open Go K
set_option linter.unusedVariables false
theorem live_true : armoirelaw15_live.f = some true := by decide +kernel
/-! which touches may be -/
def okT (t : S_api_Touch) : Bool :=
  (t.kind == 4 && (decide (0 ≤ t.lo ∧ t.lo < t.hi ∧ t.hi ≤ 512) && (t.name == []) && (t.ino != 0))) || (t.kind == 5 && ((t.name != []) && (t.lo == 0) && (t.hi == 0) && (t.ino != 0))) || ((t.kind == 1 || t.kind == 2 || t.kind == 3 || t.kind == 6 || t.kind == 7) && ((t.name == []) && (t.lo == 0) && (t.hi == 0) && (t.ino != 0)))
theorem reads_Check_eq (t : S_api_Touch) : reads_Check.f t = some (if okT t = true then 0 else 1) := by
  obtain ⟨k, i, n, lo, hi⟩ := t
  unfold reads_Check.f reads_Check.j0 okT
  by_cases h4 : k = 4
  · subst h4
    by_cases h1 : lo < 0 <;> by_cases h2 : hi ≤ lo <;> by_cases h3 : 512 < hi <;> by_cases h5 : i = 0 <;> by_cases h6 : n = [] <;> simp [h1, h2, h3, h5, h6] <;> omega
  by_cases h5 : k = 5
  · subst h5
    by_cases h1 : n = [] <;> by_cases h2 : lo = 0 <;> by_cases h3 : hi = 0 <;> by_cases h5 : i = 0 <;> simp [h1, h2, h3, h5]
  by_cases h : k = 1 ∨ k = 2 ∨ k = 3 ∨ k = 6 ∨ k = 7
  · rcases h with rfl | rfl | rfl | rfl | rfl <;> by_cases h1 : n = [] <;> by_cases h2 : lo = 0 <;> by_cases h3 : hi = 0 <;> by_cases h5 : i = 0 <;> simp [h1, h2, h3, h5]
  · simp only [not_or] at h
    obtain ⟨a, b, c, d, e⟩ := h
    simp [h4, h5, a, b, c, d, e]
theorem ref_Check_eq (t : S_api_Touch) : armoireref15_Check.f t = some (if okT t = true then 0 else 1) := by
  obtain ⟨k, i, n, lo, hi⟩ := t
  unfold armoireref15_Check.f armoireref15_Check.j0 armoireref15_Check.j1 okT
  by_cases h4 : k = 4
  · subst h4
    by_cases h1 : 0 ≤ lo <;> by_cases h2 : lo < hi <;> by_cases h3 : hi ≤ 512 <;> by_cases h5 : i = 0 <;> by_cases h6 : n = [] <;> simp [h1, h2, h3, h5, h6] <;> omega
  by_cases h5 : k = 5
  · subst h5
    by_cases h1 : n = [] <;> by_cases h2 : lo = 0 <;> by_cases h3 : hi = 0 <;> by_cases h5 : i = 0 <;> simp [h1, h2, h3, h5]
  by_cases h : k = 1 ∨ k = 2 ∨ k = 3 ∨ k = 6 ∨ k = 7
  · rcases h with rfl | rfl | rfl | rfl | rfl <;> by_cases h1 : n = [] <;> by_cases h2 : lo = 0 <;> by_cases h3 : hi = 0 <;> by_cases h5 : i = 0 <;> simp [h1, h2, h3, h5]
  · simp only [not_or] at h
    obtain ⟨a, b, c, d, e⟩ := h
    simp [h4, h5, a, b, c, d, e]
/-! sets -/
theorem Index_eq (l : List S_api_Touch) (t : S_api_Touch) (hl : l.length ≤ 140737488351232) : ∃ r, slices_Index_Lapi_Touch_api_Touch.f l t = some r ∧ (0 ≤ r ↔ t ∈ l) := by
  unfold slices_Index_Lapi_Touch_api_Touch.f
  refine idx_ind (P := fun d i => ∃ r, slices_Index_Lapi_Touch_api_Touch.l0 l t d (i : Int) = some r ∧ (0 ≤ r ↔ t ∈ l.drop i)) l.length hl (fun d => ?_) (fun d i hi ih => ?_)
  · refine ⟨-1, ?_, by simp⟩
    rw [slices_Index_Lapi_Touch_api_Touch.l0, if_neg (by omega)]
  · obtain ⟨r, h1, h2⟩ := ih
    rw [slices_Index_Lapi_Touch_api_Touch.l0, if_pos (by omega), if_pos (by omega), getD_at hi, mem_drop hi]
    by_cases e : t = l[i]
    · exact ⟨i, by rw [if_pos e], by simp only [e, true_or, iff_true]; omega⟩
    · exact ⟨r, by rw [if_neg e, wi_succ hi hl]; exact h1, by rw [h2]; simp only [e, false_or]⟩
theorem Contains_eq (l : List S_api_Touch) (t : S_api_Touch) (hl : l.length ≤ 140737488351232) : slices_Contains_Lapi_Touch_api_Touch.f l t = some (decide (t ∈ l)) := by
  unfold slices_Contains_Lapi_Touch_api_Touch.f
  obtain ⟨r, h1, h2⟩ := Index_eq l t hl
  rw [h1]
  simp [h2]
/-- what a set has, after one more -/
def put (l : List S_api_Touch) (t : S_api_Touch) : List S_api_Touch := if t ∈ l then l else l ++ [t]
def put? (l : List S_api_Touch) (t : S_api_Touch) : List S_api_Touch := if okT t = true then put l t else l
theorem put_len (l : List S_api_Touch) (t : S_api_Touch) : l.length ≤ (put l t).length ∧ (put l t).length ≤ l.length + 1 := by
  unfold put; split <;> simp
theorem put?_len (l : List S_api_Touch) (t : S_api_Touch) : l.length ≤ (put? l t).length ∧ (put? l t).length ≤ l.length + 1 := by
  unfold put?; split
  · exact put_len l t
  · omega
theorem Add_eq (l : List S_api_Touch) (t : S_api_Touch) (hl : l.length ≤ 1000000) : reads_Set_Add.f ⟨l⟩ t = some (if okT t = true then 0 else 1, ⟨put? l t⟩) := by
  unfold reads_Set_Add.f put? put
  rw [reads_Check_eq, Option.bind_some]
  by_cases h : okT t = true
  · rw [if_pos h, if_neg (by simp), Contains_eq _ _ (by simp; omega), Option.bind_some]
    by_cases e : t ∈ l
    · simp [e, h]
    · simp [e, h]; omega
  · simp [h]
theorem ref_Add_eq (l : List S_api_Touch) (t : S_api_Touch) (hl : l.length ≤ 1000000) : armoireref15_Add.f l t = some (put l t) := by
  unfold armoireref15_Add.f
  have h : armoireref15_Add.l0 l t FUEL ((0 : Nat) : Int) = some (if t ∈ l.drop 0 then l else l ++ [t]) := by
    refine idx_ind (P := fun d i => armoireref15_Add.l0 l t d (i : Int) = some (if t ∈ l.drop i then l else l ++ [t])) l.length (by omega) (fun d => ?_) (fun d i hi ih => ?_)
    · rw [armoireref15_Add.l0, if_neg (by omega), if_pos (by omega), if_pos (by simp; omega)]
      simp
    · rw [armoireref15_Add.l0, if_pos (by omega), if_pos (by omega), getD_at hi]
      by_cases e : l[i] = t
      · rw [if_pos e, if_pos ((mem_drop hi t).2 (.inl e.symm))]
      · rw [if_neg e, wi_succ hi (by omega), ih]
        have e2 : ¬ t = l[i] := fun h => e h.symm
        by_cases e3 : t ∈ l.drop (i + 1)
        · rw [if_pos e3, if_pos ((mem_drop hi t).2 (.inr e3))]
        · rw [if_neg e3, if_neg (fun h => ((mem_drop hi t).1 h).elim e2 e3)]
  rw [show (0 : Int) = ((0 : Nat) : Int) from rfl, h]
  rfl
theorem Undo_eq (l : List S_api_Touch) (n : Int) : reads_Set_Undo.f ⟨l⟩ n = some (if n < 0 ∨ (l.length : Int) < n then (1, ⟨l⟩) else (0, ⟨l.take n.toNat⟩)) := by
  unfold reads_Set_Undo.f
  by_cases h1 : n < 0
  · simp [h1]
  · by_cases h2 : (l.length : Int) < n
    · simp [h1, h2]
    · rw [if_neg h1, if_neg h2, if_pos (by simp; omega), if_neg (by simp only [not_or]; exact ⟨h1, h2⟩)]
theorem Undo_bad (l : List S_api_Touch) (n : Int) (h : n < 0 ∨ (l.length : Int) < n) : reads_Set_Undo.f ⟨l⟩ n = some (1, ⟨l⟩) := by rw [Undo_eq, if_pos h]
theorem Undo_ok (l : List S_api_Touch) (n : Int) (h1 : ¬ n < 0) (h2 : ¬ (l.length : Int) < n) : reads_Set_Undo.f ⟨l⟩ n = some (0, ⟨l.take n.toNat⟩) := by rw [Undo_eq, if_neg (by simp only [not_or]; exact ⟨h1, h2⟩)]
theorem All_eq (l : List S_api_Touch) (hl : l.length ≤ 1000000) : reads_Set_All.f ⟨l⟩ = some l := by
  unfold reads_Set_All.f slices_Clone_Lapi_Touch_api_Touch.f
  rw [if_pos (by simp; omega)]
  simp
theorem same_eq (l : List S_api_Touch) (hl : l.length ≤ 1000000) : armoirelaw15_same.f ⟨l⟩ l = some true := by
  unfold armoirelaw15_same.f reads_Set_Mark.f
  rw [All_eq l hl, Option.bind_some, if_neg (by simp), Option.bind_some, if_neg (by simp)]
  have h : ∀ x : List S_api_Touch, x.length = l.length ∧ x.drop 0 = l.drop 0 → armoirelaw15_same.l0 l l FUEL x ((0 : Nat) : Int) = some true := by
    refine idx_ind (P := fun d i => ∀ x : List S_api_Touch, x.length = l.length ∧ x.drop i = l.drop i → armoirelaw15_same.l0 l l d x (i : Int) = some true) l.length (by omega) (fun d => ?_) (fun d i hi ih => ?_)
    · intro x hx
      rw [armoirelaw15_same.l0, if_neg (by omega)]
    · intro x ⟨hx, hd⟩
      have hxi : i < x.length := by omega
      have e : x[i] = l[i] := by
        rw [List.drop_eq_getElem_cons hxi, List.drop_eq_getElem_cons hi] at hd
        exact (List.cons.inj hd).1
      rw [armoirelaw15_same.l0, if_pos (by omega), if_pos (by omega), if_pos (by omega), getD_at hxi, getD_at hi, if_neg (by simp [e]), if_pos (by omega), wi_succ hi (by omega), Int.toNat_natCast]
      refine ih _ ⟨by simp [hx], ?_⟩
      rw [List.drop_set_of_lt (by omega)]
      rw [List.drop_eq_getElem_cons hxi, List.drop_eq_getElem_cons hi] at hd
      exact (List.cons.inj hd).2
  exact h l ⟨rfl, rfl⟩
theorem armoirelaw15_ReadsSetsLaw {P1 : Prop} (a : List S_armoirelaw15_Op) (w : a.length ≤ 140737488351232 ∧ P1) : armoirelaw15_ReadsSets.f a = some true := by
  unfold armoirelaw15_ReadsSets.f
  rw [live_true, Option.bind_some]
  unfold reads_New.f
  rw [Option.bind_some]
  by_cases h100 : 100 < (a.length : Int)
  · rw [if_pos h100]; rfl
  rw [if_neg h100]
  have h : ∀ x : List S_api_Touch, x.length ≤ 0 → armoirelaw15_ReadsSets.l0 a true FUEL x x ((0 : Nat) : Int) = some true := by
    refine idx_ind (P := fun d i => ∀ x : List S_api_Touch, x.length ≤ i → armoirelaw15_ReadsSets.l0 a true d x x (i : Int) = some true) a.length (by omega) (fun d => ?_) (fun d i hi ih => ?_)
    · intro x hx
      rw [armoirelaw15_ReadsSets.l0, if_neg (by omega)]
    · intro x hx
      have hj : ∀ n : Int, armoirelaw15_ReadsSets.j0 a x x (i : Int) (armoirelaw15_ReadsSets.l0 a true d) n = some true := by
        intro n
        unfold armoirelaw15_ReadsSets.j0
        rw [getD_at hi]
        by_cases h0 : (a[i]).do_ = 0
        · rw [if_pos h0, Add_eq _ _ (by omega), Option.bind_some, ref_Check_eq, Option.bind_some, if_neg (by simp), Option.bind_some]
          by_cases ho : okT (a[i]).t = true
          · have hp : put? x (a[i]).t = put x (a[i]).t := by unfold put?; rw [if_pos ho]
            have := put_len x (a[i]).t
            rw [if_pos ho, if_pos rfl, ref_Add_eq _ _ (by omega), Option.bind_some, hp, same_eq _ (by omega), Option.bind_some, wi_succ hi (by omega)]
            exact ih _ (by dsimp only; omega)
          · have hp : put? x (a[i]).t = x := by unfold put?; rw [if_neg ho]
            rw [if_neg ho, if_neg (by decide), hp, same_eq _ (by omega), Option.bind_some, wi_succ hi (by omega)]
            exact ih _ (by dsimp only; omega)
        · rw [if_neg h0]
          by_cases h1 : n < 0
          · rw [if_pos h1, Undo_bad _ _ (.inl h1), Option.bind_some, if_neg (by simp), same_eq _ (by omega), Option.bind_some, wi_succ hi (by omega)]
            exact ih _ (by dsimp only; omega)
          · rw [if_neg h1]
            by_cases h2 : (x.length : Int) < n
            · rw [if_pos h2]
              unfold armoirelaw15_ReadsSets.j1
              rw [Undo_bad _ _ (.inr h2), Option.bind_some, if_neg (by simp), if_neg (by decide), same_eq _ (by omega), Option.bind_some, wi_succ hi (by omega)]
              exact ih _ (by dsimp only; omega)
            · rw [if_neg h2]
              unfold armoirelaw15_ReadsSets.j1
              have hl : (x.take n.toNat).length ≤ x.length := by simp; omega
              rw [Undo_ok _ _ h1 h2, Option.bind_some, if_neg (by simp), if_pos rfl, if_pos (by omega), same_eq _ (by omega), Option.bind_some, wi_succ hi (by omega)]
              exact ih _ (by dsimp only; omega)
      rw [armoirelaw15_ReadsSets.l0, if_pos (by omega), if_pos (by omega)]
      split <;> exact hj _
  exact h [] (by simp)
/-! a mark and what is undone -/
theorem put?_mem {l : List S_api_Touch} {t : S_api_Touch} (h : okT t = true) : t ∈ put? l t := by
  unfold put? put
  rw [if_pos h]
  split
  · assumption
  · simp
theorem put?_keep {l : List S_api_Touch} {t u : S_api_Touch} (h : u ∈ l) : u ∈ put? l t := by
  unfold put? put
  split
  · split
    · exact h
    · simp [h]
  · exact h
theorem put?_had {l : List S_api_Touch} {t : S_api_Touch} (h : okT t = true → t ∈ l) : put? l t = l := by
  unfold put? put
  split
  · rw [if_pos (h (by assumption))]
  · rfl
theorem put?_pre (l : List S_api_Touch) (t : S_api_Touch) : put? l t = l ∨ put? l t = l ++ [t] := by
  unfold put? put
  split
  · split
    · exact .inl rfl
    · exact .inr rfl
  · exact .inl rfl
theorem undone_l2 (a b x : List S_api_Touch) (hx : x.length ≤ 1000000) : armoirelaw15_ReadsUndone.l2 true x x FUEL ((0 : Nat) : Int) = some true := by
  refine idx_ind (P := fun d i => armoirelaw15_ReadsUndone.l2 true x x d (i : Int) = some true) x.length (by omega) (fun d => ?_) (fun d i hi ih => ?_)
  · rw [armoirelaw15_ReadsUndone.l2, if_neg (by omega)]
  · rw [armoirelaw15_ReadsUndone.l2, if_pos (by omega), if_pos (by omega), if_pos (by omega), if_neg (by simp), wi_succ hi (by omega)]
    exact ih
theorem undone_l1 (a b x : List S_api_Touch) (hab : a.length + b.length ≤ 100) (hx : x.length ≤ a.length) (hm : ∀ t ∈ a, okT t = true → t ∈ x) : armoirelaw15_ReadsUndone.l1 a b true x (x.length : Int) FUEL x ((0 : Nat) : Int) = some true := by
  have h : ∀ z : List S_api_Touch, z.length ≤ 0 - a.length → armoirelaw15_ReadsUndone.l1 a b true x (x.length : Int) FUEL (x ++ z) ((0 : Nat) : Int) = some true := by
    refine idx_ind (P := fun d i => ∀ z : List S_api_Touch, z.length ≤ i - a.length → armoirelaw15_ReadsUndone.l1 a b true x (x.length : Int) d (x ++ z) (i : Int) = some true) (a ++ b).length (by simp; omega) (fun d => ?_) (fun d i hi ih => ?_)
    · intro z hz
      rw [List.length_append] at hz
      have e : (x ++ z).take ((x.length : Int)).toNat = x := by simp
      rw [armoirelaw15_ReadsUndone.l1, if_neg (by simp)]
      unfold reads_Set_Mark.f
      rw [Option.bind_some, Undo_ok _ _ (by omega) (by simp; omega), Option.bind_some]
      dsimp only
      rw [e, All_eq _ (by omega), Option.bind_some, if_neg (by simp), if_neg (by simp), wi64_id (by omega), if_neg (by simp; omega)]
      exact undone_l2 a b x (by omega)
    · intro z hz
      have hl : ([] ++ a ++ b : List S_api_Touch) = a ++ b := by simp
      have hab' : (a ++ b).length = a.length + b.length := List.length_append
      rw [armoirelaw15_ReadsUndone.l1, hl, if_pos (by omega), if_pos (by omega), getD_at hi, Add_eq _ _ (by simp; omega), Option.bind_some, wi_succ hi (by omega)]
      by_cases hia : i < a.length
      · have e : (a ++ b)[i] = a[i] := List.getElem_append_left hia
        rw [put?_had (fun ho => by rw [e] at ho ⊢; exact List.mem_append_left _ (hm _ (List.getElem_mem _) ho))]
        exact ih z (by omega)
      · rcases put?_pre (x ++ z) (a ++ b)[i] with e | e
        · rw [e]; exact ih z (by omega)
        · rw [e, List.append_assoc]; exact ih (z ++ [_]) (by simp; omega)
  have := h [] (by simp)
  rwa [List.append_nil] at this
theorem armoirelaw15_ReadsUndoneLaw {P1 P2 : Prop} (a b : List S_api_Touch) (wa : a.length ≤ 140737488351232 ∧ P1) (wb : b.length ≤ 140737488351232 ∧ P2) : armoirelaw15_ReadsUndone.f a b = some true := by
  unfold armoirelaw15_ReadsUndone.f
  rw [live_true, Option.bind_some]
  unfold reads_New.f
  rw [Option.bind_some, wi64_id (by omega)]
  by_cases h100 : 100 < (a.length : Int) + (b.length : Int)
  · rw [if_pos h100]; rfl
  rw [if_neg h100]
  have h : ∀ x : List S_api_Touch, x.length ≤ 0 ∧ (∀ t ∈ a.take 0, okT t = true → t ∈ x) → armoirelaw15_ReadsUndone.l0 a b true FUEL x ((0 : Nat) : Int) = some true := by
    refine idx_ind (P := fun d i => ∀ x : List S_api_Touch, x.length ≤ i ∧ (∀ t ∈ a.take i, okT t = true → t ∈ x) → armoirelaw15_ReadsUndone.l0 a b true d x (i : Int) = some true) a.length (by omega) (fun d => ?_) (fun d i hi ih => ?_)
    · intro x ⟨hx, hm⟩
      rw [List.take_length] at hm
      rw [armoirelaw15_ReadsUndone.l0, if_neg (by omega), All_eq _ (by omega), Option.bind_some]
      unfold reads_Set_Mark.f
      rw [Option.bind_some, if_pos (by simp; omega), if_pos (by simp; omega)]
      exact undone_l1 a b x (by omega) hx hm
    · intro x ⟨hx, hm⟩
      rw [armoirelaw15_ReadsUndone.l0, if_pos (by omega), if_pos (by omega), getD_at hi, Add_eq _ _ (by omega), Option.bind_some, wi_succ hi (by omega)]
      have := put?_len x a[i]
      refine ih _ ⟨by dsimp only; omega, fun t ht ho => ?_⟩
      rw [List.take_succ_eq_append_getElem hi, List.mem_append, List.mem_singleton] at ht
      rcases ht with ht | ht
      · exact put?_keep (hm t ht ho)
      · subst ht; exact put?_mem ho
  exact h [] ⟨by simp, by simp⟩
/-! which meet which, read first -/
theorem okT_kind {t : S_api_Touch} (h : okT t = true) : t.kind = 1 ∨ t.kind = 2 ∨ t.kind = 3 ∨ t.kind = 4 ∨ t.kind = 5 ∨ t.kind = 6 ∨ t.kind = 7 := by
  obtain ⟨k, i, n, lo, hi⟩ := t
  simp only [okT, Bool.or_eq_true, Bool.and_eq_true, beq_iff_eq] at h ⊢
  omega
def meet (r w : S_api_Touch) : Bool :=
  okT r && okT w && (r.ino == w.ino) && (if w.kind = 7 then true else if r.kind = 6 then (w.kind == 5) else if r.kind ≠ w.kind ∨ r.kind = 7 then false else if r.kind = 4 then decide (r.lo < w.hi ∧ w.lo < r.hi) else if r.kind = 5 then (r.name == w.name) else true)
theorem reads_Meet_eq (r w : S_api_Touch) : reads_Meet.f r w = some (meet r w) := by
  unfold reads_Meet.f
  rw [reads_Check_eq, reads_Check_eq]
  unfold meet
  by_cases h1 : okT r = true
  · by_cases h2 : okT w = true
    · have k1 := okT_kind h1
      have k2 := okT_kind h2
      simp only [h1, h2, if_true, Option.bind_some]
      unfold reads_Meet.j0
      by_cases hi : r.ino = w.ino
      · simp only [hi, ne_eq, not_true_eq_false, decide_false, Bool.false_eq_true, if_false, beq_self_eq_true, Bool.and_self, Bool.true_and]
        generalize r.kind = rk at k1 ⊢
        generalize w.kind = wk at k2 ⊢
        generalize r.lo = rlo
        generalize r.hi = rhi
        generalize w.lo = wlo
        generalize w.hi = whi
        by_cases c1 : rlo < whi <;> by_cases c2 : wlo < rhi <;> by_cases c3 : r.name = w.name <;>
          rcases k1 with rfl | rfl | rfl | rfl | rfl | rfl | rfl <;> rcases k2 with rfl | rfl | rfl | rfl | rfl | rfl | rfl <;> simp [c1, c2, c3]
      · simp [hi]
    · have h2' : okT w = false := by simpa using h2
      simp [h1, h2']
  · have h1' : okT r = false := by simpa using h1
    simp [h1']
theorem ref_Meet_eq (r w : S_api_Touch) : armoireref15_Meet.f r w = some (meet r w) := by
  unfold armoireref15_Meet.f
  rw [ref_Check_eq, ref_Check_eq]
  unfold meet
  by_cases h1 : okT r = true
  · by_cases h2 : okT w = true
    · have k1 := okT_kind h1
      have k2 := okT_kind h2
      simp only [h1, h2, if_true, Option.bind_some]
      by_cases hi : r.ino = w.ino
      · simp only [hi, ne_eq, not_true_eq_false, decide_false, Bool.false_eq_true, if_false, beq_self_eq_true, Bool.and_self, Bool.true_and]
        generalize r.kind = rk at k1 ⊢
        generalize w.kind = wk at k2 ⊢
        generalize r.lo = rlo
        generalize r.hi = rhi
        generalize w.lo = wlo
        generalize w.hi = whi
        by_cases c1 : rlo < whi <;> by_cases c2 : wlo < rhi <;> by_cases c3 : r.name = w.name <;>
          rcases k1 with rfl | rfl | rfl | rfl | rfl | rfl | rfl <;> rcases k2 with rfl | rfl | rfl | rfl | rfl | rfl | rfl <;> simp [c1, c2, c3]
      · simp [hi]
    · have h2' : okT w = false := by simpa using h2
      simp [h1, h2']
  · have h1' : okT r = false := by simpa using h1
    simp [h1']
/-! histories -/
theorem any_drop {α : Type} {xs : List α} {i : Nat} (h : i < xs.length) (p : α → Bool) : (xs.drop i).any p = (p xs[i] || (xs.drop (i + 1)).any p) := by
  rw [List.drop_eq_getElem_cons h, List.any_cons]
theorem all_drop {α : Type} {xs : List α} {i : Nat} (h : i < xs.length) (p : α → Bool) : (xs.drop i).all p = (p xs[i] && (xs.drop (i + 1)).all p) := by
  rw [List.drop_eq_getElem_cons h, List.all_cons]
def hadd (l : List S_reads_was) (v : Int) (ts : List S_api_Touch) : Int × S_reads_History := if ts.all okT = true then (0, ⟨l ++ [⟨v, ts⟩]⟩) else (1, ⟨l⟩)
theorem HAdd1_eq (t : S_api_Touch) : reads_History_Add_1.f t = some (!okT t) := by
  unfold reads_History_Add_1.f
  rw [reads_Check_eq]
  by_cases h : okT t = true <;> simp [h]
theorem Clone_eq (l : List S_api_Touch) (hl : l.length ≤ 1000000) : slices_Clone_Lapi_Touch_api_Touch.f l = some l := by
  unfold slices_Clone_Lapi_Touch_api_Touch.f
  rw [if_pos (by simp; omega)]
  simp
theorem HAdd_l0 (l : List S_reads_was) (v : Int) (ts : List S_api_Touch) (hl : l.length ≤ 1000) (ht : ts.length ≤ 1000) : reads_History_Add.l0 ⟨l⟩ v ts FUEL ((0 : Nat) : Int) = some (hadd l v ts) := by
  have h : reads_History_Add.l0 ⟨l⟩ v ts FUEL ((0 : Nat) : Int) = some (if (ts.drop 0).all okT = true then (0, ⟨l ++ [⟨v, ts⟩]⟩) else (1, ⟨l⟩)) := by
    refine idx_ind (P := fun d i => reads_History_Add.l0 ⟨l⟩ v ts d (i : Int) = some (if (ts.drop i).all okT = true then (0, ⟨l ++ [⟨v, ts⟩]⟩) else (1, ⟨l⟩))) ts.length (by omega) (fun d => ?_) (fun d i hi ih => ?_)
    · rw [reads_History_Add.l0, if_neg (by omega), reads_History_Add.j0, if_neg (by simp), Clone_eq _ (by omega), Option.bind_some, if_pos (by simp; omega), List.drop_length]
      rfl
    · rw [reads_History_Add.l0, if_pos (by omega), if_pos (by omega), getD_at hi, HAdd1_eq, Option.bind_some, all_drop hi]
      by_cases e : okT ts[i] = true
      · rw [if_neg (by simp [e]), wi_succ hi (by omega), ih, e, Bool.true_and]
      · rw [if_pos (by simp [e]), reads_History_Add.j1, if_pos (by simp), if_neg (by simp [e])]
  exact h
theorem HAdd_l1 (l : List S_reads_was) (v : Int) (ts : List S_api_Touch) (hl : l.length ≤ 1000) (ht : ts.length ≤ 1000) : reads_History_Add.l1 ⟨l⟩ v ts FUEL ((0 : Nat) : Int) = some (hadd l v ts) := by
  have h : reads_History_Add.l1 ⟨l⟩ v ts FUEL ((0 : Nat) : Int) = some (if (ts.drop 0).all okT = true then (0, ⟨l ++ [⟨v, ts⟩]⟩) else (1, ⟨l⟩)) := by
    refine idx_ind (P := fun d i => reads_History_Add.l1 ⟨l⟩ v ts d (i : Int) = some (if (ts.drop i).all okT = true then (0, ⟨l ++ [⟨v, ts⟩]⟩) else (1, ⟨l⟩))) ts.length (by omega) (fun d => ?_) (fun d i hi ih => ?_)
    · rw [reads_History_Add.l1, if_neg (by omega), reads_History_Add.j3, Clone_eq _ (by omega), Option.bind_some, if_pos (by simp; omega), List.drop_length]
      rfl
    · rw [reads_History_Add.l1, if_pos (by omega), if_pos (by omega), getD_at hi, HAdd1_eq, Option.bind_some, all_drop hi]
      by_cases e : okT ts[i] = true
      · rw [if_neg (by simp [e]), wi_succ hi (by omega), ih, e, Bool.true_and]
      · rw [if_pos (by simp [e]), reads_History_Add.j2, if_pos (by simp), if_neg (by simp [e])]
  exact h
/-- later than all that is there -/
def later (l : List S_reads_was) (v : Int) : Bool := match l.getLast? with | none => true | some w => decide (w.version < v)
theorem HAdd_eq (l : List S_reads_was) (v : Int) (ts : List S_api_Touch) (hl : l.length ≤ 1000) (ht : ts.length ≤ 1000) : reads_History_Add.f ⟨l⟩ v ts = some (if later l v = true then hadd l v ts else (1, ⟨l⟩)) := by
  unfold reads_History_Add.f
  dsimp only
  rcases List.eq_nil_or_concat l with rfl | ⟨l', w, rfl⟩
  · rw [if_neg (by simp)]
    exact HAdd_l1 _ _ _ hl ht
  · rw [List.concat_eq_append] at hl ⊢
    have hlen : (l' ++ [w]).length = l'.length + 1 := by simp
    have hw : wi64 (((l'.length + 1 : Nat) : Int) - 1) = (l'.length : Int) := by rw [wi64_id (by omega)]; omega
    rw [hlen, if_pos (by omega), hw, if_pos (by omega)]
    have hg : ((l' ++ [w]).getD ((l'.length : Int)).toNat (S_reads_was.mk 0 [])) = w := by
      rw [getD_at (by omega)]; simp
    have hv : later (l' ++ [w]) v = decide (w.version < v) := by simp [later]
    rw [hg, hv]
    by_cases e : v ≤ w.version
    · rw [if_pos e, reads_History_Add.j0, if_pos rfl, if_neg (by simp; omega)]
    · rw [if_neg e, if_pos (by simp; omega)]
      exact HAdd_l0 _ _ _ hl ht
/-- what was written since v meets what is read -/
def hmeet (l : List S_reads_was) (v : Int) (ts : List S_api_Touch) : Bool := l.any fun w => decide (v < w.version) && ts.any fun t => w.l.any fun u => meet t u
def short (l : List S_reads_was) : Prop := l.length ≤ 1000 ∧ ∀ w ∈ l, w.l.length ≤ 1000
theorem HMeets11_eq (t : S_api_Touch) (w : S_reads_was) (hw : w.l.length ≤ 1000) : reads_History_Meets_1_1.f t w = some (w.l.any fun u => meet t u) := by
  unfold reads_History_Meets_1_1.f
  have h : reads_History_Meets_1_1.l0 t w FUEL ((0 : Nat) : Int) = some ((w.l.drop 0).any fun u => meet t u) := by
    refine idx_ind (P := fun d i => reads_History_Meets_1_1.l0 t w d (i : Int) = some ((w.l.drop i).any fun u => meet t u)) w.l.length (by omega) (fun d => ?_) (fun d i hi ih => ?_)
    · rw [reads_History_Meets_1_1.l0, if_neg (by omega), List.drop_length]; rfl
    · rw [reads_History_Meets_1_1.l0, if_pos (by omega), if_pos (by omega), getD_at hi, any_drop hi]
      unfold reads_History_Meets_1_1_1.f
      rw [reads_Meet_eq, Option.bind_some, Option.bind_some, wi_succ hi (by omega), ih]
      by_cases e : meet t w.l[i] = true
      · rw [if_pos e, e]; simp
      · rw [if_neg e, Bool.eq_false_iff.2 e, Bool.false_or]
  exact h
theorem HMeets1_eq (w : S_reads_was) (v : Int) (ts : List S_api_Touch) (hw : w.l.length ≤ 1000) (ht : ts.length ≤ 1000) : reads_History_Meets_1.f w v ts = some (decide (v < w.version) && ts.any fun t => w.l.any fun u => meet t u) := by
  unfold reads_History_Meets_1.f
  by_cases e : v < w.version
  · rw [if_pos e, decide_eq_true e, Bool.true_and]
    have h : reads_History_Meets_1.l0 w ts FUEL ((0 : Nat) : Int) = some ((ts.drop 0).any fun t => w.l.any fun u => meet t u) := by
      refine idx_ind (P := fun d i => reads_History_Meets_1.l0 w ts d (i : Int) = some ((ts.drop i).any fun t => w.l.any fun u => meet t u)) ts.length (by omega) (fun d => ?_) (fun d i hi ih => ?_)
      · rw [reads_History_Meets_1.l0, if_neg (by omega), List.drop_length]; rfl
      · rw [reads_History_Meets_1.l0, if_pos (by omega), if_pos (by omega), getD_at hi, any_drop hi, HMeets11_eq _ _ hw, Option.bind_some, wi_succ hi (by omega), ih]
        by_cases e : (w.l.any fun u => meet ts[i] u) = true
        · rw [if_pos e, e]; simp
        · rw [if_neg e, Bool.eq_false_iff.2 e, Bool.false_or]
    exact h
  · rw [if_neg e, decide_eq_false e, Bool.false_and]
theorem HMeets_eq (l : List S_reads_was) (v : Int) (ts : List S_api_Touch) (hl : short l) (ht : ts.length ≤ 1000) : reads_History_Meets.f ⟨l⟩ v ts = some (hmeet l v ts) := by
  unfold reads_History_Meets.f
  have h : reads_History_Meets.l0 ⟨l⟩ v ts FUEL ((0 : Nat) : Int) = some (hmeet (l.drop 0) v ts) := by
    refine idx_ind (P := fun d i => reads_History_Meets.l0 ⟨l⟩ v ts d (i : Int) = some (hmeet (l.drop i) v ts)) l.length (by have := hl.1; omega) (fun d => ?_) (fun d i hi ih => ?_)
    · rw [reads_History_Meets.l0, if_neg (by simp), List.drop_length]; rfl
    · have := hl.1
      unfold hmeet
      rw [reads_History_Meets.l0, if_pos (by dsimp only; omega), if_pos (by dsimp only; omega), getD_at hi, any_drop hi, HMeets1_eq _ _ _ (hl.2 _ (List.getElem_mem hi)) ht, Option.bind_some, wi_succ hi (by omega), ih]
      generalize (decide (v < l[i].version) && ts.any fun t => l[i].l.any fun u => meet t u) = b
      cases b
      · rfl
      · simp
  exact h
theorem hadd_short {l : List S_reads_was} {v : Int} {ts : List S_api_Touch} {i : Nat} (hi : l.length ≤ i) (hl : ∀ w ∈ l, w.l.length ≤ 1000) (ht : ts.length ≤ 1000) :
    (if later l v = true then hadd l v ts else (1, ⟨l⟩)).2.l.length ≤ i + 1 ∧ ∀ w ∈ (if later l v = true then hadd l v ts else (1, ⟨l⟩)).2.l, w.l.length ≤ 1000 := by
  unfold hadd
  split
  · split
    · refine ⟨by simp; omega, fun w hw => ?_⟩
      simp only [List.mem_append, List.mem_singleton] at hw
      rcases hw with hw | rfl
      · exact hl w hw
      · exact ht
    · exact ⟨by dsimp only; omega, hl⟩
  · exact ⟨by dsimp only; omega, hl⟩
theorem hmeet_append (l : List S_reads_was) (v : Int) (a b : List S_api_Touch) : hmeet l v (a ++ b) = (hmeet l v a || hmeet l v b) := by
  unfold hmeet
  induction l with
  | nil => rfl
  | cons w l ih =>
    rw [List.any_cons, List.any_cons, List.any_cons, ih, List.any_append]
    generalize decide (v < w.version) = p
    generalize (a.any fun t => w.l.any fun u => meet t u) = q
    generalize (b.any fun t => w.l.any fun u => meet t u) = r
    generalize (l.any fun w => decide (v < w.version) && a.any fun t => w.l.any fun u => meet t u) = s
    generalize (l.any fun w => decide (v < w.version) && b.any fun t => w.l.any fun u => meet t u) = t
    cases p <;> cases q <;> cases r <;> cases s <;> cases t <;> rfl
theorem hmeet_nil (l : List S_reads_was) (v : Int) : hmeet l v [] = false := by
  unfold hmeet
  rw [List.any_eq_false]
  intro w _
  simp
theorem hmeet_older {l : List S_reads_was} {v v' : Int} {a : List S_api_Touch} (h : hmeet l v a = true) (hv : v' ≤ v) : hmeet l v' a = true := by
  unfold hmeet at h ⊢
  rw [List.any_eq_true] at h ⊢
  obtain ⟨w, hw, h⟩ := h
  rw [Bool.and_eq_true, decide_eq_true_eq] at h
  exact ⟨w, hw, by rw [Bool.and_eq_true, decide_eq_true_eq]; exact ⟨by omega, h.2⟩⟩
theorem armoirelaw15_ReadsMoreLaw {P1 P3 P4 : Prop} (l : List S_armoirelaw15_Act) (since : Int) (a b : List S_api_Touch) (wl : l.length ≤ 140737488351232 ∧ P1) (ws : (Lit.int .u64 since).wf = true) (wa : a.length ≤ 140737488351232 ∧ P3) (wb : b.length ≤ 140737488351232 ∧ P4) : armoirelaw15_ReadsMore.f l since a b = some true := by
  have hs : 0 ≤ since ∧ since < 18446744073709551616 := by
    simp [Lit.wf] at ws
    have e1 : IntKind.min .u64 = 0 := by decide +kernel
    have e2 : IntKind.max .u64 = 18446744073709551615 := by decide +kernel
    omega
  unfold armoirelaw15_ReadsMore.f
  rw [live_true, Option.bind_some]
  unfold reads_NewHistory.f
  rw [Option.bind_some, wi64_id (by omega)]
  by_cases h60 : 60 < (l.length : Int)
  · rw [if_pos h60]; rfl
  rw [if_neg h60]
  by_cases h100 : 100 < (a.length : Int) + (b.length : Int)
  · rw [if_pos h100]; rfl
  rw [if_neg h100]
  have h : ∀ x : List S_reads_was, x.length ≤ 0 ∧ (∀ w ∈ x, w.l.length ≤ 1000) → armoirelaw15_ReadsMore.l0 l since a b true FUEL x ((0 : Nat) : Int) = some true := by
    refine idx_ind (P := fun d i => ∀ x : List S_reads_was, x.length ≤ i ∧ (∀ w ∈ x, w.l.length ≤ 1000) → armoirelaw15_ReadsMore.l0 l since a b true d x (i : Int) = some true) l.length (by omega) (fun d => ?_) (fun d i hi ih => ?_)
    · intro x ⟨hx, hm⟩
      have sh : short x := ⟨by omega, hm⟩
      rw [armoirelaw15_ReadsMore.l0, if_neg (by omega), HMeets_eq _ _ _ sh (by omega), Option.bind_some, HMeets_eq _ _ _ sh (by omega), Option.bind_some, if_pos (by simp; omega), if_pos (by simp; omega),
        HMeets_eq _ _ _ sh (by simp; omega), Option.bind_some, if_pos (by simp; omega), if_pos (by simp; omega), HMeets_eq _ _ _ sh (by simp; omega), Option.bind_some, if_pos rfl, List.nil_append, List.nil_append, hmeet_append, hmeet_append]
      have hj : ∀ p, p = true → armoirelaw15_ReadsMore.j0 since a x (hmeet x since a) (hmeet x since a || hmeet x since b) (hmeet x since b || hmeet x since a) p = some true := by
        intro p hp
        unfold armoirelaw15_ReadsMore.j0
        rw [if_pos hp, if_pos (by rw [Bool.or_comm]; simp), HMeets_eq _ _ _ sh (by simp), Option.bind_some, hmeet_nil, if_pos (by simp)]
        by_cases ha : hmeet x since a = true
        · rw [if_neg (by simp [ha])]
          by_cases h0 : since = 0
          · rw [if_pos h0]
          · rw [if_neg h0, wu64_id (by omega), HMeets_eq _ _ _ sh (by omega), Option.bind_some, hmeet_older ha (by omega)]
        · rw [if_pos (by simp [ha])]
      by_cases ha : hmeet x since a = true
      · rw [if_pos ha]; exact hj _ (by simp [ha])
      · rw [if_neg ha]; exact hj _ (by simp [ha])
    · intro x ⟨hx, hm⟩
      rw [armoirelaw15_ReadsMore.l0, if_pos (by omega), if_pos (by omega), getD_at hi, wi_succ hi (by omega)]
      by_cases hc : ((l[i].l.length : Nat) : Int) ≤ 100
      · rw [if_pos hc, HAdd_eq _ _ _ (by omega) (by omega), Option.bind_some]
        exact ih _ (hadd_short hx hm (by omega))
      · rw [if_neg hc]
        exact ih _ ⟨by omega, hm⟩
  exact h [] ⟨by simp, by simp⟩
end Go.Proofs.Ytpiliblfmpgjeaa
