/- The plain laws of chapter 15, sets and histories (own text). -/
import Derived.Test.YtpiliblfmpgjeaaBd
import Derived.Test.YtpiliblfmpgjeaaPure
namespace Go.Proofs.Ytpiliblfmpgjeaa
open Go K
set_option linter.unusedVariables false
theorem live_true : armoirelaw15_live.f = some true := by decide +kernel
/-! which touches may be -/
def okT (t : S_api_Touch) : Bool :=
  (t.kind == 4 && (decide (0 ≤ t.lo ∧ t.lo < t.hi ∧ t.hi ≤ 512) && (t.name == []) && (t.ino != 0))) || (t.kind == 5 && ((t.name != []) && (t.lo == 0) && (t.hi == 0) && (t.ino != 0))) || ((t.kind == 1 || t.kind == 2 || t.kind == 3 || t.kind == 6 || t.kind == 7) && ((t.name == []) && (t.lo == 0) && (t.hi == 0) && (t.ino != 0)))
theorem reads_Check_eq (t : S_api_Touch) : reads_Check.f t = some (if okT t = true then 0 else 1) := by
  obtain ⟨k, i, n, lo, hi⟩ := t
  unfold reads_Check.f reads_Check.j0 okT
  by_cases h4 : k = 4
  · subst h4
    by_cases h1 : lo < 0 <;> by_cases h2 : hi ≤ lo <;> by_cases h3 : 512 < hi <;> by_cases h5 : i = 0 <;> by_cases h6 : n = [] <;> simp [h1, h2, h3, h5, h6] <;> omega
  by_cases h5 : k = 5
  · subst h5
    by_cases h1 : n = [] <;> by_cases h2 : lo = 0 <;> by_cases h3 : hi = 0 <;> by_cases h5 : i = 0 <;> simp [h1, h2, h3, h5]
  by_cases h : k = 1 ∨ k = 2 ∨ k = 3 ∨ k = 6 ∨ k = 7
  · rcases h with rfl | rfl | rfl | rfl | rfl <;> by_cases h1 : n = [] <;> by_cases h2 : lo = 0 <;> by_cases h3 : hi = 0 <;> by_cases h5 : i = 0 <;> simp [h1, h2, h3, h5]
  · simp only [not_or] at h
    obtain ⟨a, b, c, d, e⟩ := h
    simp [h4, h5, a, b, c, d, e]
theorem ref_Check_eq (t : S_api_Touch) : armoireref15_Check.f t = some (if okT t = true then 0 else 1) := by
  obtain ⟨k, i, n, lo, hi⟩ := t
  unfold armoireref15_Check.f armoireref15_Check.j0 armoireref15_Check.j1 okT
  by_cases h4 : k = 4
  · subst h4
    by_cases h1 : 0 ≤ lo <;> by_cases h2 : lo < hi <;> by_cases h3 : hi ≤ 512 <;> by_cases h5 : i = 0 <;> by_cases h6 : n = [] <;> simp [h1, h2, h3, h5, h6] <;> omega
  by_cases h5 : k = 5
  · subst h5
    by_cases h1 : n = [] <;> by_cases h2 : lo = 0 <;> by_cases h3 : hi = 0 <;> by_cases h5 : i = 0 <;> simp [h1, h2, h3, h5]
  by_cases h : k = 1 ∨ k = 2 ∨ k = 3 ∨ k = 6 ∨ k = 7
  · rcases h with rfl | rfl | rfl | rfl | rfl <;> by_cases h1 : n = [] <;> by_cases h2 : lo = 0 <;> by_cases h3 : hi = 0 <;> by_cases h5 : i = 0 <;> simp [h1, h2, h3, h5]
  · simp only [not_or] at h
    obtain ⟨a, b, c, d, e⟩ := h
    simp [h4, h5, a, b, c, d, e]
/-! sets -/
theorem Index_eq (l : List S_api_Touch) (t : S_api_Touch) (hl : l.length ≤ 140737488351232) : ∃ r, slices_Index_Lapi_Touch_api_Touch.f l t = some r ∧ (0 ≤ r ↔ t ∈ l) := by
  unfold slices_Index_Lapi_Touch_api_Touch.f
  refine idx_ind (P := fun d i => ∃ r, slices_Index_Lapi_Touch_api_Touch.l0 l t d (i : Int) = some r ∧ (0 ≤ r ↔ t ∈ l.drop i)) l.length hl (fun d => ?_) (fun d i hi ih => ?_)
  · refine ⟨-1, ?_, by simp⟩
    rw [slices_Index_Lapi_Touch_api_Touch.l0, if_neg (by omega)]
  · obtain ⟨r, h1, h2⟩ := ih
    rw [slices_Index_Lapi_Touch_api_Touch.l0, if_pos (by omega), if_pos (by omega), getD_at hi, mem_drop hi]
    by_cases e : t = l[i]
    · exact ⟨i, by rw [if_pos e], by simp only [e, true_or, iff_true]; omega⟩
    · exact ⟨r, by rw [if_neg e, wi_succ hi hl]; exact h1, by rw [h2]; simp only [e, false_or]⟩
theorem Contains_eq (l : List S_api_Touch) (t : S_api_Touch) (hl : l.length ≤ 140737488351232) : slices_Contains_Lapi_Touch_api_Touch.f l t = some (decide (t ∈ l)) := by
  unfold slices_Contains_Lapi_Touch_api_Touch.f
  obtain ⟨r, h1, h2⟩ := Index_eq l t hl
  rw [h1]
  simp [h2]
/-- what a set has, after one more -/
def put (l : List S_api_Touch) (t : S_api_Touch) : List S_api_Touch := if t ∈ l then l else l ++ [t]
def put? (l : List S_api_Touch) (t : S_api_Touch) : List S_api_Touch := if okT t = true then put l t else l
theorem put_len (l : List S_api_Touch) (t : S_api_Touch) : l.length ≤ (put l t).length ∧ (put l t).length ≤ l.length + 1 := by
  unfold put; split <;> simp
theorem put?_len (l : List S_api_Touch) (t : S_api_Touch) : l.length ≤ (put? l t).length ∧ (put? l t).length ≤ l.length + 1 := by
  unfold put?; split
  · exact put_len l t
  · omega
theorem Add_eq (l : List S_api_Touch) (t : S_api_Touch) (hl : l.length ≤ 1000000) : reads_Set_Add.f ⟨l⟩ t = some (if okT t = true then 0 else 1, ⟨put? l t⟩) := by
  unfold reads_Set_Add.f put? put
  rw [reads_Check_eq, Option.bind_some]
  by_cases h : okT t = true
  · rw [if_pos h, if_neg (by simp), Contains_eq _ _ (by simp; omega), Option.bind_some]
    by_cases e : t ∈ l
    · simp [e, h]
    · simp [e, h]; omega
  · simp [h]
theorem ref_Add_eq (l : List S_api_Touch) (t : S_api_Touch) (hl : l.length ≤ 1000000) : armoireref15_Add.f l t = some (put l t) := by
  unfold armoireref15_Add.f
  have h : armoireref15_Add.l0 l t FUEL ((0 : Nat) : Int) = some (if t ∈ l.drop 0 then l else l ++ [t]) := by
    refine idx_ind (P := fun d i => armoireref15_Add.l0 l t d (i : Int) = some (if t ∈ l.drop i then l else l ++ [t])) l.length (by omega) (fun d => ?_) (fun d i hi ih => ?_)
    · rw [armoireref15_Add.l0, if_neg (by omega), if_pos (by omega), if_pos (by simp; omega)]
      simp
    · rw [armoireref15_Add.l0, if_pos (by omega), if_pos (by omega), getD_at hi]
      by_cases e : l[i] = t
      · rw [if_pos e, if_pos ((mem_drop hi t).2 (.inl e.symm))]
      · rw [if_neg e, wi_succ hi (by omega), ih]
        have e2 : ¬ t = l[i] := fun h => e h.symm
        by_cases e3 : t ∈ l.drop (i + 1)
        · rw [if_pos e3, if_pos ((mem_drop hi t).2 (.inr e3))]
        · rw [if_neg e3, if_neg (fun h => ((mem_drop hi t).1 h).elim e2 e3)]
  rw [show (0 : Int) = ((0 : Nat) : Int) from rfl, h]
  rfl
theorem Undo_eq (l : List S_api_Touch) (n : Int) : reads_Set_Undo.f ⟨l⟩ n = some (if n < 0 ∨ (l.length : Int) < n then (1, ⟨l⟩) else (0, ⟨l.take n.toNat⟩)) := by
  unfold reads_Set_Undo.f
  by_cases h1 : n < 0
  · simp [h1]
  · by_cases h2 : (l.length : Int) < n
    · simp [h1, h2]
    · rw [if_neg h1, if_neg h2, if_pos (by simp; omega), if_neg (by simp only [not_or]; exact ⟨h1, h2⟩)]
theorem Undo_bad (l : List S_api_Touch) (n : Int) (h : n < 0 ∨ (l.length : Int) < n) : reads_Set_Undo.f ⟨l⟩ n = some (1, ⟨l⟩) := by rw [Undo_eq, if_pos h]
theorem Undo_ok (l : List S_api_Touch) (n : Int) (h1 : ¬ n < 0) (h2 : ¬ (l.length : Int) < n) : reads_Set_Undo.f ⟨l⟩ n = some (0, ⟨l.take n.toNat⟩) := by rw [Undo_eq, if_neg (by simp only [not_or]; exact ⟨h1, h2⟩)]
theorem All_eq (l : List S_api_Touch) (hl : l.length ≤ 1000000) : reads_Set_All.f ⟨l⟩ = some l := by
  unfold reads_Set_All.f slices_Clone_Lapi_Touch_api_Touch.f
  rw [if_pos (by simp; omega)]
  simp
theorem same_eq (l : List S_api_Touch) (hl : l.length ≤ 1000000) : armoirelaw15_same.f ⟨l⟩ l = some true := by
  unfold armoirelaw15_same.f reads_Set_Mark.f
  rw [All_eq l hl, Option.bind_some, if_neg (by simp), Option.bind_some, if_neg (by simp)]
  have h : ∀ x : List S_api_Touch, x.length = l.length ∧ x.drop 0 = l.drop 0 → armoirelaw15_same.l0 l l FUEL x ((0 : Nat) : Int) = some true := by
    refine idx_ind (P := fun d i => ∀ x : List S_api_Touch, x.length = l.length ∧ x.drop i = l.drop i → armoirelaw15_same.l0 l l d x (i : Int) = some true) l.length (by omega) (fun d => ?_) (fun d i hi ih => ?_)
    · intro x hx
      rw [armoirelaw15_same.l0, if_neg (by omega)]
    · intro x ⟨hx, hd⟩
      have hxi : i < x.length := by omega
      have e : x[i] = l[i] := by
        rw [List.drop_eq_getElem_cons hxi, List.drop_eq_getElem_cons hi] at hd
        exact (List.cons.inj hd).1
      rw [armoirelaw15_same.l0, if_pos (by omega), if_pos (by omega), if_pos (by omega), getD_at hxi, getD_at hi, if_neg (by simp [e]), if_pos (by omega), wi_succ hi (by omega), Int.toNat_natCast]
      refine ih _ ⟨by simp [hx], ?_⟩
      rw [List.drop_set_of_lt (by omega)]
      rw [List.drop_eq_getElem_cons hxi, List.drop_eq_getElem_cons hi] at hd
      exact (List.cons.inj hd).2
  exact h l ⟨rfl, rfl⟩
theorem armoirelaw15_ReadsSetsLaw {P1 : Prop} (a : List S_armoirelaw15_Op) (w : a.length ≤ 140737488351232 ∧ P1) : armoirelaw15_ReadsSets.f a = some true := by
  unfold armoirelaw15_ReadsSets.f
  rw [live_true, Option.bind_some]
  unfold reads_New.f
  rw [Option.bind_some]
  by_cases h100 : 100 < (a.length : Int)
  · rw [if_pos h100]; rfl
  rw [if_neg h100]
  have h : ∀ x : List S_api_Touch, x.length ≤ 0 → armoirelaw15_ReadsSets.l0 a true FUEL x x ((0 : Nat) : Int) = some true := by
    refine idx_ind (P := fun d i => ∀ x : List S_api_Touch, x.length ≤ i → armoirelaw15_ReadsSets.l0 a true d x x (i : Int) = some true) a.length (by omega) (fun d => ?_) (fun d i hi ih => ?_)
    · intro x hx
      rw [armoirelaw15_ReadsSets.l0, if_neg (by omega)]
    · intro x hx
      have hj : ∀ n : Int, armoirelaw15_ReadsSets.j0 a x x (i : Int) (armoirelaw15_ReadsSets.l0 a true d) n = some true := by
        intro n
        unfold armoirelaw15_ReadsSets.j0
        rw [getD_at hi]
        by_cases h0 : (a[i]).do_ = 0
        · rw [if_pos h0, Add_eq _ _ (by omega), Option.bind_some, ref_Check_eq, Option.bind_some, if_neg (by simp), Option.bind_some]
          by_cases ho : okT (a[i]).t = true
          · have hp : put? x (a[i]).t = put x (a[i]).t := by unfold put?; rw [if_pos ho]
            have := put_len x (a[i]).t
            rw [if_pos ho, if_pos rfl, ref_Add_eq _ _ (by omega), Option.bind_some, hp, same_eq _ (by omega), Option.bind_some, wi_succ hi (by omega)]
            exact ih _ (by dsimp only; omega)
          · have hp : put? x (a[i]).t = x := by unfold put?; rw [if_neg ho]
            rw [if_neg ho, if_neg (by decide), hp, same_eq _ (by omega), Option.bind_some, wi_succ hi (by omega)]
            exact ih _ (by dsimp only; omega)
        · rw [if_neg h0]
          by_cases h1 : n < 0
          · rw [if_pos h1, Undo_bad _ _ (.inl h1), Option.bind_some, if_neg (by simp), same_eq _ (by omega), Option.bind_some, wi_succ hi (by omega)]
            exact ih _ (by dsimp only; omega)
          · rw [if_neg h1]
            by_cases h2 : (x.length : Int) < n
            · rw [if_pos h2]
              unfold armoirelaw15_ReadsSets.j1
              rw [Undo_bad _ _ (.inr h2), Option.bind_some, if_neg (by simp), if_neg (by decide), same_eq _ (by omega), Option.bind_some, wi_succ hi (by omega)]
              exact ih _ (by dsimp only; omega)
            · rw [if_neg h2]
              unfold armoirelaw15_ReadsSets.j1
              have hl : (x.take n.toNat).length ≤ x.length := by simp; omega
              rw [Undo_ok _ _ h1 h2, Option.bind_some, if_neg (by simp), if_pos rfl, if_pos (by omega), same_eq _ (by omega), Option.bind_some, wi_succ hi (by omega)]
              exact ih _ (by dsimp only; omega)
      rw [armoirelaw15_ReadsSets.l0, if_pos (by omega), if_pos (by omega)]
      split <;> exact hj _
  exact h [] (by simp)
end Go.Proofs.Ytpiliblfmpgjeaa
