/- The plain law of chapter 15's histories (own text). -/
import Derived.Test.YtpiliblfmpgjeaaBp
namespace Go.Proofs.Ytpiliblfmpgjeaa
open Go K
set_option linter.unusedVariables false
def conv (w : S_reads_was) : S_armoireref15_Was := ⟨w.version, w.l⟩
theorem idx_at {P : Nat → Nat → Prop} (n k : Nat) (hn : n ≤ 140737488351232) (hk : k ≤ n) (hend : ∀ d, P (d + 1) n) (hstep : ∀ d i, k ≤ i → i < n → P d (i + 1) → P (d + 1) i) : P FUEL k := by
  have h : ∀ d i, k ≤ i → i ≤ n → n < i + d → P d i := by
    intro d
    induction d with
    | zero => intro i h0 h1 h2; omega
    | succ d ih =>
      intro i h0 h1 h2
      by_cases e : i = n
      · subst e; exact hend d
      · exact hstep d i h0 (by omega) (ih (i + 1) (by omega) (by omega) (by omega))
  exact h FUEL k (by omega) hk (by rw [FUEL_val]; omega)
theorem Good_l1 (ts : List S_api_Touch) (ht : ts.length ≤ 1000) (b : Bool) : armoireref15_Good.l1 ts FUEL b ((0 : Nat) : Int) = some (b && ts.all okT) := by
  have h : ∀ b : Bool, armoireref15_Good.l1 ts FUEL b ((0 : Nat) : Int) = some (b && (ts.drop 0).all okT) := by
    refine idx_ind (P := fun d i => ∀ b : Bool, armoireref15_Good.l1 ts d b (i : Int) = some (b && (ts.drop i).all okT)) ts.length (by omega) (fun d b => ?_) (fun d i hi ih b => ?_)
    · rw [armoireref15_Good.l1, if_neg (by omega), List.drop_length]; simp
    · rw [armoireref15_Good.l1, if_pos (by omega), if_pos (by omega), getD_at hi, all_drop hi, wi_succ hi (by omega), ref_Check_eq, Option.bind_some, ih, ih]
      cases b
      · rw [if_neg (by decide)]; simp
      · rw [if_pos rfl]
        by_cases e : okT ts[i] = true <;> simp [e]
  exact h b
theorem Good_eq (x : List S_armoireref15_Was) (v : Int) (ts : List S_api_Touch) (hx : x.length ≤ 1000) (ht : ts.length ≤ 1000) : armoireref15_Good.f x v ts = some ((x.all fun w => decide (w.version < v)) && ts.all okT) := by
  unfold armoireref15_Good.f
  have h : ∀ b : Bool, armoireref15_Good.l0 x v ts FUEL b ((0 : Nat) : Int) = some ((b && (x.drop 0).all fun w => decide (w.version < v)) && ts.all okT) := by
    refine idx_ind (P := fun d i => ∀ b : Bool, armoireref15_Good.l0 x v ts d b (i : Int) = some ((b && (x.drop i).all fun w => decide (w.version < v)) && ts.all okT)) x.length (by omega) (fun d b => ?_) (fun d i hi ih b => ?_)
    · rw [armoireref15_Good.l0, if_neg (by omega), List.drop_length]
      refine (Good_l1 ts ht b).trans ?_
      simp
    · rw [armoireref15_Good.l0, if_pos (by omega), if_pos (by omega), getD_at hi, all_drop hi, wi_succ hi (by omega), ih, ih]
      cases b
      · rw [if_neg (by decide)]; simp
      · rw [if_pos rfl]; simp
  have := h true
  rw [Bool.true_and] at this
  exact this
theorem rMeets_l2 (x : List S_armoireref15_Was) (v : Int) (ts : List S_api_Touch) (ht : ts.length ≤ 1000) (k : Int → Option Bool) {i j : Nat} (hi : i < x.length) (hj : j < x[i].l.length) :
    armoireref15_Meets.l2 x v ts (i : Int) (j : Int) k FUEL ((0 : Nat) : Int) = if (ts.any fun t => decide (v < x[i].version) && meet t x[i].l[j]) = true then some true else k (wi64 ((j : Int) + 1)) := by
  have h : armoireref15_Meets.l2 x v ts (i : Int) (j : Int) k FUEL ((0 : Nat) : Int) = if ((ts.drop 0).any fun t => decide (v < x[i].version) && meet t x[i].l[j]) = true then some true else k (wi64 ((j : Int) + 1)) := by
    refine idx_ind (P := fun d m => armoireref15_Meets.l2 x v ts (i : Int) (j : Int) k d (m : Int) = if ((ts.drop m).any fun t => decide (v < x[i].version) && meet t x[i].l[j]) = true then some true else k (wi64 ((j : Int) + 1))) ts.length (by omega) (fun d => ?_) (fun d m hm ih => ?_)
    · rw [armoireref15_Meets.l2, if_neg (by omega), List.drop_length, if_neg (by simp)]
    · rw [armoireref15_Meets.l2, if_pos (by omega), if_pos (by omega), getD_at hm, getD_at hi, getD_at hj, any_drop hm, wi_succ hm (by omega), ih]
      by_cases e : v < x[i].version
      · rw [if_pos e, ref_Meet_eq, Option.bind_some, decide_eq_true e]
        by_cases e2 : meet ts[m] x[i].l[j] = true
        · rw [if_pos e2, if_pos (by simp [e2])]
        · rw [if_neg e2, Bool.eq_false_iff.2 e2, Bool.and_false, Bool.false_or]
      · rw [if_neg e, decide_eq_false e, Bool.false_and, Bool.false_or]
  exact h
theorem rMeets_l1 (x : List S_armoireref15_Was) (v : Int) (ts : List S_api_Touch) (ht : ts.length ≤ 1000) (k : Int → Option Bool) {i : Nat} (hi : i < x.length) (hl : x[i].l.length ≤ 1000) :
    armoireref15_Meets.l1 x v ts (i : Int) k FUEL ((0 : Nat) : Int) = if (x[i].l.any fun u => ts.any fun t => decide (v < x[i].version) && meet t u) = true then some true else k (wi64 ((i : Int) + 1)) := by
  have h : armoireref15_Meets.l1 x v ts (i : Int) k FUEL ((0 : Nat) : Int) = if ((x[i].l.drop 0).any fun u => ts.any fun t => decide (v < x[i].version) && meet t u) = true then some true else k (wi64 ((i : Int) + 1)) := by
    refine idx_ind (P := fun d j => armoireref15_Meets.l1 x v ts (i : Int) k d (j : Int) = if ((x[i].l.drop j).any fun u => ts.any fun t => decide (v < x[i].version) && meet t u) = true then some true else k (wi64 ((i : Int) + 1))) x[i].l.length (by omega) (fun d => ?_) (fun d j hj ih => ?_)
    · rw [armoireref15_Meets.l1, getD_at hi, if_neg (by omega), List.drop_length, if_neg (by simp)]
    · rw [armoireref15_Meets.l1, getD_at hi, if_pos (by omega), if_pos (by omega), any_drop hj]
      refine (rMeets_l2 x v ts ht _ hi hj).trans ?_
      rw [wi_succ hj (by omega), ih]
      by_cases e : (ts.any fun t => decide (v < x[i].version) && meet t x[i].l[j]) = true
      · rw [if_pos e, if_pos (by rw [e]; simp)]
      · rw [if_neg e, Bool.eq_false_iff.2 e, Bool.false_or]
  exact h
theorem rMeets_eq (x : List S_armoireref15_Was) (v : Int) (ts : List S_api_Touch) (hx : x.length ≤ 1000) (hl : ∀ w ∈ x, w.l.length ≤ 1000) (ht : ts.length ≤ 1000) : armoireref15_Meets.f x v ts = some (x.any fun w => w.l.any fun u => ts.any fun t => decide (v < w.version) && meet t u) := by
  unfold armoireref15_Meets.f
  have h : armoireref15_Meets.l0 x v ts FUEL ((0 : Nat) : Int) = some ((x.drop 0).any fun w => w.l.any fun u => ts.any fun t => decide (v < w.version) && meet t u) := by
    refine idx_ind (P := fun d i => armoireref15_Meets.l0 x v ts d (i : Int) = some ((x.drop i).any fun w => w.l.any fun u => ts.any fun t => decide (v < w.version) && meet t u)) x.length (by omega) (fun d => ?_) (fun d i hi ih => ?_)
    · rw [armoireref15_Meets.l0, if_neg (by omega), List.drop_length]; rfl
    · rw [armoireref15_Meets.l0, if_pos (by omega), if_pos (by omega), any_drop hi]
      refine (rMeets_l1 x v ts ht _ hi (hl _ (List.getElem_mem hi))).trans ?_
      rw [wi_succ hi (by omega), ih]
      by_cases e : (x[i].l.any fun u => ts.any fun t => decide (v < x[i].version) && meet t u) = true
      · rw [if_pos e, e, Bool.true_or]
      · rw [if_neg e, Bool.eq_false_iff.2 e, Bool.false_or]
  exact h
theorem conv_meets (l : List S_reads_was) (v : Int) (ts : List S_api_Touch) : ((l.map conv).any fun w => w.l.any fun u => ts.any fun t => decide (v < w.version) && meet t u) = hmeet l v ts := by
  unfold hmeet
  rw [List.any_map]
  congr 1
  funext w
  show (w.l.any fun u => ts.any fun t => decide (v < w.version) && meet t u) = _
  rw [Bool.eq_iff_iff]
  simp only [List.any_eq_true, Bool.and_eq_true, decide_eq_true_eq]
  constructor
  · rintro ⟨u, hu, t, ht, h1, h2⟩
    exact ⟨h1, t, ht, u, hu, h2⟩
  · rintro ⟨h1, t, ht, u, hu, h2⟩
    exact ⟨u, hu, t, ht, h1, h2⟩
/-! what is forgotten -/
theorem Forget_l0 (l : List S_reads_was) (v : Int) (hl : l.length ≤ 1000) (k : Nat) (hk : k < l.length) (h0 : (l.take k).filter (fun w => decide (v < w.version)) = l.take k) (h1 : ¬ v < l[k].version) :
    reads_History_Forget.l0 v FUEL l (k : Int) ((k + 1 : Nat) : Int) = some ⟨l.filter fun w => decide (v < w.version)⟩ := by
  have h : ∀ (xs : List S_reads_was) (j : Nat), xs.length = l.length ∧ j < k + 1 ∧ xs.take j = (l.take (k + 1)).filter (fun w => decide (v < w.version)) ∧ xs.drop (k + 1) = l.drop (k + 1) → reads_History_Forget.l0 v FUEL xs (j : Int) ((k + 1 : Nat) : Int) = some ⟨l.filter fun w => decide (v < w.version)⟩ := by
    refine idx_at (P := fun d i => ∀ (xs : List S_reads_was) (j : Nat), xs.length = l.length ∧ j < i ∧ xs.take j = (l.take i).filter (fun w => decide (v < w.version)) ∧ xs.drop i = l.drop i → reads_History_Forget.l0 v d xs (j : Int) (i : Int) = some ⟨l.filter fun w => decide (v < w.version)⟩) l.length (k + 1) (by omega) (by omega) (fun d xs j => ?_) (fun d i hki hi ih xs j => ?_)
    · rintro ⟨hx, hj, ht, hd⟩
      rw [List.take_length] at ht
      rw [reads_History_Forget.l0, if_neg (by omega), if_pos (by omega), if_pos (by simp; omega), ← ht]
      congr 2
      rw [Int.toNat_natCast, List.append_assoc, List.take_append_of_le_length (by simp; omega), List.take_take, Nat.min_self]
    · rintro ⟨hx, hj, ht, hd⟩
      have hxi : i < xs.length := by omega
      have e : xs[i] = l[i] := by
        rw [List.drop_eq_getElem_cons hxi, List.drop_eq_getElem_cons hi] at hd
        exact (List.cons.inj hd).1
      have hd' : xs.drop (i + 1) = l.drop (i + 1) := by
        rw [List.drop_eq_getElem_cons hxi, List.drop_eq_getElem_cons hi] at hd
        exact (List.cons.inj hd).2
      rw [reads_History_Forget.l0, if_pos (by omega), if_pos (by omega), getD_at hxi]
      unfold reads_History_Forget_1.f
      rw [Option.bind_some, wi_succ hi (by omega), wi_succ (show j < l.length by omega) (by omega), Int.toNat_natCast]
      by_cases hv : v < l[i].version
      · rw [if_pos (by rw [e]; simp; omega), if_pos (by omega)]
        refine ih _ (j + 1) ⟨by simp [hx], by omega, ?_, by rw [List.drop_set_of_lt (by omega)]; exact hd'⟩
        rw [List.take_succ_eq_append_getElem hi, List.filter_append, ← ht, List.take_succ_eq_append_getElem (by simp; omega), List.take_set_of_le (by omega), List.getElem_set_self, e]
        simp [hv]
      · rw [if_neg (by rw [e]; simp; omega)]
        refine ih _ j ⟨hx, by omega, ?_, hd'⟩
        rw [List.take_succ_eq_append_getElem hi, List.filter_append, ← ht]
        simp [hv]
  refine h l k ⟨rfl, by omega, ?_, rfl⟩
  rw [List.take_succ_eq_append_getElem hk, List.filter_append, h0]
  simp [h1]
theorem Forget_eq (l : List S_reads_was) (v : Int) (hl : l.length ≤ 1000) : reads_History_Forget.f ⟨l⟩ v = some ⟨l.filter fun w => decide (v < w.version)⟩ := by
  unfold reads_History_Forget.f
  have h : (l.take 0).filter (fun w => decide (v < w.version)) = l.take 0 → reads_History_Forget.l1 ⟨l⟩ v FUEL ((0 : Nat) : Int) = some ⟨l.filter fun w => decide (v < w.version)⟩ := by
    refine idx_ind (P := fun d i => (l.take i).filter (fun w => decide (v < w.version)) = l.take i → reads_History_Forget.l1 ⟨l⟩ v d (i : Int) = some ⟨l.filter fun w => decide (v < w.version)⟩) l.length (by omega) (fun d h0 => ?_) (fun d i hi ih h0 => ?_)
    · rw [List.take_length] at h0
      rw [reads_History_Forget.l1, if_neg (by simp), reads_History_Forget.j0, if_pos rfl, h0]
    · rw [reads_History_Forget.l1, if_pos (by dsimp only; omega), if_pos (by dsimp only; omega), getD_at hi]
      unfold reads_History_Forget_1.f
      rw [Option.bind_some, wi_succ hi (by omega)]
      by_cases hv : v < l[i].version
      · rw [if_neg (by simp; omega)]
        refine ih ?_
        rw [List.take_succ_eq_append_getElem hi, List.filter_append, h0]
        simp [hv]
      · rw [if_pos (by simp; omega), reads_History_Forget.j0, if_neg (by omega), wi_succ hi (by omega)]
        exact Forget_l0 l v hl i hi h0 hv
  exact h (by simp)
theorem rForget_eq (x : List S_armoireref15_Was) (v : Int) (hx : x.length ≤ 1000) : armoireref15_Forget.f x v = some (x.filter fun w => decide (v < w.version)) := by
  unfold armoireref15_Forget.f
  have h : ∀ acc : List S_armoireref15_Was, acc.length ≤ 0 → armoireref15_Forget.l0 x v FUEL acc ((0 : Nat) : Int) = some (acc ++ (x.drop 0).filter fun w => decide (v < w.version)) := by
    refine idx_ind (P := fun d i => ∀ acc : List S_armoireref15_Was, acc.length ≤ i → armoireref15_Forget.l0 x v d acc (i : Int) = some (acc ++ (x.drop i).filter fun w => decide (v < w.version))) x.length (by omega) (fun d acc ha => ?_) (fun d i hi ih acc ha => ?_)
    · rw [armoireref15_Forget.l0, if_neg (by omega), List.drop_length]; simp
    · rw [armoireref15_Forget.l0, if_pos (by omega), if_pos (by omega), getD_at hi, wi_succ hi (by omega), List.drop_eq_getElem_cons hi, List.filter_cons]
      by_cases hv : v < x[i].version
      · rw [if_pos hv, if_pos (by simp; omega), ih _ (by simp; omega), if_pos (by simp [hv]), List.append_assoc]
        rfl
      · rw [if_neg hv, ih _ (by omega), if_neg (by simp [hv])]
  have := h [] (by simp)
  simpa using this
/-! the whole -/
def rising (l : List S_reads_was) : Prop := l.Pairwise fun a b => a.version < b.version
theorem later_all {l : List S_reads_was} (h : rising l) (v : Int) : ((l.map conv).all fun w => decide (w.version < v)) = later l v := by
  rcases List.eq_nil_or_concat l with rfl | ⟨l', w, rfl⟩
  · rfl
  · rw [List.concat_eq_append] at h ⊢
    have hv : later (l' ++ [w]) v = decide (w.version < v) := by simp [later]
    rw [hv, Bool.eq_iff_iff]
    simp only [List.all_eq_true, List.mem_map, decide_eq_true_eq]
    constructor
    · intro h1; exact h1 (conv w) ⟨w, by simp, rfl⟩
    · rintro h1 _ ⟨u, hu, rfl⟩
      rcases List.mem_append.1 hu with hu | hu
      · have := (List.pairwise_append.1 h).2.2 u hu w (by simp)
        show u.version < v
        omega
      · rw [List.mem_singleton.1 hu]; exact h1
theorem rising_add {l : List S_reads_was} (h : rising l) {v : Int} (hv : later l v = true) (ts : List S_api_Touch) : rising (l ++ [⟨v, ts⟩]) := by
  unfold rising
  rw [List.pairwise_append]
  refine ⟨h, by simp, fun a ha b hb => ?_⟩
  rw [List.mem_singleton.1 hb]
  rw [← later_all h] at hv
  have h := List.all_eq_true.1 hv (conv a) (List.mem_map_of_mem ha)
  exact of_decide_eq_true h
theorem own_l1 (a : List S_armoirelaw15_Act) {i : Nat} (hi : i < a.length) (k : List S_reads_was → List S_armoireref15_Was → Int → Option Bool) (l : List S_reads_was) (h100 : a[i].l.length ≤ 100) :
    armoirelaw15_ReadsHistory.l1 a (i : Int) k l (l.map conv) FUEL (([] : List S_api_Touch) ++ a[i].l) ((0 : Nat) : Int) = k l (l.map conv) (wi64 ((i : Int) + 1)) := by
  have h : ∀ y : List S_api_Touch, y.length = a[i].l.length → armoirelaw15_ReadsHistory.l1 a (i : Int) k l (l.map conv) FUEL y ((0 : Nat) : Int) = k l (l.map conv) (wi64 ((i : Int) + 1)) := by
    refine idx_ind (P := fun d j => ∀ y : List S_api_Touch, y.length = a[i].l.length → armoirelaw15_ReadsHistory.l1 a (i : Int) k l (l.map conv) d y (j : Int) = k l (l.map conv) (wi64 ((i : Int) + 1))) a[i].l.length (by omega) (fun d y hy => ?_) (fun d j hj ih y hy => ?_)
    · rw [armoirelaw15_ReadsHistory.l1, getD_at hi, List.nil_append, if_neg (by omega)]
      unfold reads_History_Len.f
      rw [Option.bind_some, if_neg (by simp)]
    · rw [armoirelaw15_ReadsHistory.l1, getD_at hi, List.nil_append, if_pos (by omega), if_pos (by omega), wi_succ hj (by omega)]
      exact ih _ (by simp [hy])
  exact h _ (by simp)
theorem own_l2 (a : List S_armoirelaw15_Act) {i : Nat} (hi : i < a.length) (k : List S_reads_was → List S_armoireref15_Was → Int → Option Bool) (e : Int) (l : List S_reads_was) (h100 : a[i].l.length ≤ 100) :
    armoirelaw15_ReadsHistory.l2 a (i : Int) k (e, ⟨l⟩) (l.map conv) FUEL (([] : List S_api_Touch) ++ a[i].l) ((0 : Nat) : Int) = k l (l.map conv) (wi64 ((i : Int) + 1)) := by
  have h : ∀ y : List S_api_Touch, y.length = a[i].l.length → armoirelaw15_ReadsHistory.l2 a (i : Int) k (e, ⟨l⟩) (l.map conv) FUEL y ((0 : Nat) : Int) = k l (l.map conv) (wi64 ((i : Int) + 1)) := by
    refine idx_ind (P := fun d j => ∀ y : List S_api_Touch, y.length = a[i].l.length → armoirelaw15_ReadsHistory.l2 a (i : Int) k (e, ⟨l⟩) (l.map conv) d y (j : Int) = k l (l.map conv) (wi64 ((i : Int) + 1))) a[i].l.length (by omega) (fun d y hy => ?_) (fun d j hj ih y hy => ?_)
    · rw [armoirelaw15_ReadsHistory.l2, getD_at hi, List.nil_append, if_neg (by omega)]
      unfold reads_History_Len.f
      rw [Option.bind_some, if_neg (by simp)]
    · rw [armoirelaw15_ReadsHistory.l2, getD_at hi, List.nil_append, if_pos (by omega), if_pos (by omega), wi_succ hj (by omega)]
      exact ih _ (by simp [hy])
  exact h _ (by simp)
theorem own_l3 (a : List S_armoirelaw15_Act) {i : Nat} (hi : i < a.length) (k : List S_reads_was → List S_armoireref15_Was → Int → Option Bool) (e : Int) (l : List S_reads_was) (h100 : a[i].l.length ≤ 100) :
    armoirelaw15_ReadsHistory.l3 a (i : Int) k (e, ⟨l⟩) (l.map conv) FUEL (([] : List S_api_Touch) ++ a[i].l) ((0 : Nat) : Int) = k l (l.map conv) (wi64 ((i : Int) + 1)) := by
  have h : ∀ y : List S_api_Touch, y.length = a[i].l.length → armoirelaw15_ReadsHistory.l3 a (i : Int) k (e, ⟨l⟩) (l.map conv) FUEL y ((0 : Nat) : Int) = k l (l.map conv) (wi64 ((i : Int) + 1)) := by
    refine idx_ind (P := fun d j => ∀ y : List S_api_Touch, y.length = a[i].l.length → armoirelaw15_ReadsHistory.l3 a (i : Int) k (e, ⟨l⟩) (l.map conv) d y (j : Int) = k l (l.map conv) (wi64 ((i : Int) + 1))) a[i].l.length (by omega) (fun d y hy => ?_) (fun d j hj ih y hy => ?_)
    · rw [armoirelaw15_ReadsHistory.l3, getD_at hi, List.nil_append, if_neg (by omega)]
      unfold reads_History_Len.f
      rw [Option.bind_some, if_neg (by simp)]
    · rw [armoirelaw15_ReadsHistory.l3, getD_at hi, List.nil_append, if_pos (by omega), if_pos (by omega), wi_succ hj (by omega)]
      exact ih _ (by simp [hy])
  exact h _ (by simp)
theorem armoirelaw15_ReadsHistoryLaw {P1 : Prop} (a : List S_armoirelaw15_Act) (w : a.length ≤ 140737488351232 ∧ P1) : armoirelaw15_ReadsHistory.f a = some true := by
  unfold armoirelaw15_ReadsHistory.f
  rw [live_true, Option.bind_some]
  unfold reads_NewHistory.f
  rw [Option.bind_some]
  by_cases h60 : 60 < (a.length : Int)
  · rw [if_pos h60]; rfl
  rw [if_neg h60]
  have h : ∀ l : List S_reads_was, (l.length ≤ 0 ∧ ∀ w ∈ l, w.l.length ≤ 1000) ∧ rising l → armoirelaw15_ReadsHistory.l0 a true FUEL l (l.map conv) ((0 : Nat) : Int) = some true := by
    refine idx_ind (P := fun d i => ∀ l : List S_reads_was, (l.length ≤ i ∧ ∀ w ∈ l, w.l.length ≤ 1000) ∧ rising l → armoirelaw15_ReadsHistory.l0 a true d l (l.map conv) (i : Int) = some true) a.length (by omega) (fun d l hl => ?_) (fun d i hi ih l hl => ?_)
    · rw [armoirelaw15_ReadsHistory.l0, if_neg (by omega)]
    · obtain ⟨⟨hl, hm⟩, hr⟩ := hl
      rw [armoirelaw15_ReadsHistory.l0, if_pos (by omega), if_pos (by omega), getD_at hi]
      by_cases hc : 100 < ((a[i].l.length : Nat) : Int)
      · rw [if_pos hc, wi_succ hi (by omega)]
        exact ih _ ⟨⟨by omega, hm⟩, hr⟩
      rw [if_neg hc, if_pos (by simp; omega)]
      have sh : short l := ⟨by omega, hm⟩
      have hml : (l.map conv).length = l.length := List.length_map ..
      have hmm : ∀ w ∈ l.map conv, w.l.length ≤ 1000 := by
        intro w hw
        obtain ⟨u, hu, rfl⟩ := List.mem_map.1 hw
        exact hm u hu
      have same : ∀ l' : List S_reads_was, (l'.length ≤ i + 1 ∧ ∀ w ∈ l', w.l.length ≤ 1000) ∧ rising l' → armoirelaw15_ReadsHistory.l0 a true d l' (l'.map conv) (wi64 ((i : Int) + 1)) = some true := by
        intro l' h'
        rw [wi_succ hi (by omega)]
        exact ih _ h'
      have own : ∀ l' : List S_reads_was, (l'.length ≤ i + 1 ∧ ∀ w ∈ l', w.l.length ≤ 1000) ∧ rising l' → armoirelaw15_ReadsHistory.j0 a (i : Int) (armoirelaw15_ReadsHistory.l0 a true d) l' (l'.map conv) = some true := by
        intro l' h'
        unfold armoirelaw15_ReadsHistory.j0
        rw [getD_at hi]
        exact (own_l1 a hi _ l' (by omega)).trans (same l' h')
      by_cases h0 : a[i].do_ = 0
      · rw [if_pos h0, List.nil_append, HAdd_eq _ _ _ (by omega) (by omega), Option.bind_some, Good_eq _ _ _ (by omega) (by omega), Option.bind_some, later_all hr]
        by_cases hg : later l a[i].v = true
        · by_cases ho : a[i].l.all okT = true
          · have hn : (l ++ [(⟨a[i].v, a[i].l⟩ : S_reads_was)]).map conv = l.map conv ++ [⟨a[i].v, a[i].l⟩] := by rw [List.map_append]; rfl
            rw [if_pos (by rw [hg, ho]; rfl), if_pos (by simp; omega), if_pos hg, ← hn]
            unfold armoirelaw15_ReadsHistory.j1 hadd
            rw [if_pos ho, hg, ho, if_neg (by simp), if_neg (by simp), getD_at hi]
            refine (own_l3 a hi _ 0 _ (by omega)).trans (same _ ⟨⟨by simp; omega, ?_⟩, rising_add hr hg _⟩)
            intro w hw
            rcases List.mem_append.1 hw with hw | hw
            · exact hm w hw
            · rw [List.mem_singleton.1 hw]; show a[i].l.length ≤ 1000; omega
          · rw [if_neg (by simp [ho]), if_pos hg]
            unfold armoirelaw15_ReadsHistory.j1 hadd
            rw [if_neg ho, hg, Bool.eq_false_iff.2 ho, if_neg (by simp), if_pos (by simp), if_neg (by simp), getD_at hi]
            exact (own_l2 a hi _ 1 _ (by omega)).trans (same _ ⟨⟨by omega, hm⟩, hr⟩)
        · rw [if_neg (by simp [hg]), if_neg hg]
          unfold armoirelaw15_ReadsHistory.j1
          rw [Bool.eq_false_iff.2 hg, Bool.false_and, if_neg (by simp), if_pos (by simp), if_neg (by simp), getD_at hi]
          exact (own_l2 a hi _ 1 _ (by omega)).trans (same _ ⟨⟨by omega, hm⟩, hr⟩)
      · rw [if_neg h0]
        by_cases h1 : a[i].do_ = 1
        · rw [if_pos h1, List.nil_append, HMeets_eq _ _ _ sh (by omega), Option.bind_some, rMeets_eq _ _ _ (by omega) hmm (by omega), Option.bind_some, conv_meets, if_neg (by simp)]
          exact own _ ⟨⟨by omega, hm⟩, hr⟩
        · rw [if_neg h1]
          by_cases h2 : a[i].do_ = 2
          · have hf : (l.map conv).filter (fun w => decide (a[i].v < w.version)) = (l.filter fun w => decide (a[i].v < w.version)).map conv := by
              rw [List.filter_map]; rfl
            rw [if_pos h2, Forget_eq _ _ (by omega), Option.bind_some, rForget_eq _ _ (by omega), Option.bind_some, hf]
            have := List.length_filter_le (fun w : S_reads_was => decide (a[i].v < w.version)) l
            exact own _ ⟨⟨by dsimp only; omega, fun w hw => hm w (List.mem_filter.1 hw).1⟩, List.Pairwise.filter _ hr⟩
          · rw [if_neg h2]
            exact own _ ⟨⟨by omega, hm⟩, hr⟩
  exact h [] ⟨⟨by simp, by simp⟩, List.Pairwise.nil⟩
end Go.Proofs.Ytpiliblfmpgjeaa
