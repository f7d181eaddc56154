/- The plain laws of chapter 6 (own text). -/
import Derived.Test.YtpffemcpfddjbaaAd
import Derived.Test.YtpffemcpfddjbaaPure
namespace Go.Proofs.Ytpffemcpfddjbaa
open Go K
set_option linter.unusedVariables false
theorem live_true : armoirelaw06_live.f = some true := by decide +kernel
/-! what a map has -/
def allFrom (c : UInt8) : Int → List UInt8 → List Int
  | _, [] => []
  | f, k :: r => if k = c then f :: allFrom c (f + 1) r else allFrom c (f + 1) r
theorem allFrom_cons (c : UInt8) (f : Int) (k : UInt8) (r : List UInt8) : allFrom c f (k :: r) = if k = c then f :: allFrom c (f + 1) r else allFrom c (f + 1) r := rfl
theorem allFrom_len (c : UInt8) : ∀ (f : Int) (ks : List UInt8), (allFrom c f ks).length = ks.countP (· == c)
  | _, [] => rfl
  | f, k :: r => by
    rw [List.countP_cons, allFrom_cons]
    by_cases h : k = c
    · rw [if_pos h, List.length_cons, allFrom_len]; simp [h]
    · rw [if_neg h, allFrom_len]; simp [h]
theorem allFrom_mem (c : UInt8) (x : Int) : ∀ (f : Int) (ks : List UInt8), x ∈ allFrom c f ks ↔ ∃ i : Nat, ks[i]? = some c ∧ x = f + i
  | _, [] => by simp [allFrom]
  | f, k :: r => by
    have ih := allFrom_mem c x (f + 1) r
    have e : (∃ i : Nat, (k :: r)[i]? = some c ∧ x = f + i) ↔ (k = c ∧ x = f) ∨ ∃ i : Nat, r[i]? = some c ∧ x = f + 1 + i := by
      constructor
      · rintro ⟨i, h1, h2⟩
        cases i with
        | zero => exact .inl ⟨by simpa using h1, by simpa using h2⟩
        | succ j => exact .inr ⟨j, by simpa using h1, by omega⟩
      · rintro (⟨h1, h2⟩ | ⟨i, h1, h2⟩)
        · exact ⟨0, by simp [h1], by simp [h2]⟩
        · exact ⟨i + 1, by simpa using h1, by omega⟩
    rw [e, ← ih, allFrom_cons]
    by_cases h : k = c
    · rw [if_pos h, List.mem_cons]; simp [h]
    · rw [if_neg h]; simp [h]
theorem all_eq (f : Int) (ks : List UInt8) (c : UInt8) (hf : 0 ≤ f ∧ f ≤ 1024) (hk : ks.length ≤ 1024) : free_Map_all.f ⟨f, ks⟩ c = some (allFrom c f ks) := by
  unfold free_Map_all.f
  have h : ∀ acc : List Int, acc.length ≤ 0 → free_Map_all.l0 ⟨f, ks⟩ c FUEL acc ((0 : Nat) : Int) = some (acc ++ allFrom c (f + (0 : Nat)) (ks.drop 0)) := by
    refine idx_ind (P := fun d i => ∀ acc : List Int, acc.length ≤ i → free_Map_all.l0 ⟨f, ks⟩ c d acc (i : Int) = some (acc ++ allFrom c (f + i) (ks.drop i))) ks.length (by omega) (fun d acc ha => ?_) (fun d i hi ih acc ha => ?_)
    · rw [free_Map_all.l0, if_neg (by simp), List.drop_length]; simp [allFrom]
    · rw [free_Map_all.l0, if_pos (by dsimp only; omega), if_pos (by dsimp only; omega), getD_at hi, wi_succ hi (by omega), List.drop_eq_getElem_cons hi, allFrom_cons]
      have e : f + ((i + 1 : Nat) : Int) = f + i + 1 := by omega
      by_cases h : ks[i] = c
      · rw [if_pos h, if_pos (by simp; omega), ih _ (by simp; omega), if_pos h, List.append_assoc, e]
        dsimp only
        rw [wi64_id (by omega)]
        rfl
      · rw [if_neg h, ih _ (by omega), if_neg h, e]
  have := h [] (by simp)
  simpa using this
theorem Free_eq (f : Int) (ks : List UInt8) (hf : 0 ≤ f ∧ f ≤ 1024) (hk : ks.length ≤ 1024) : free_Map_Free.f ⟨f, ks⟩ = some (allFrom 0 f ks) := by
  unfold free_Map_Free.f; rw [all_eq f ks 0 hf hk]; rfl
theorem Waiting_eq (f : Int) (ks : List UInt8) (hf : 0 ≤ f ∧ f ≤ 1024) (hk : ks.length ≤ 1024) : free_Map_Waiting.f ⟨f, ks⟩ = some (allFrom 2 f ks) := by
  unfold free_Map_Waiting.f; rw [all_eq f ks 2 hf hk]; rfl
/-! a run that is free -/
def run (ks : List UInt8) (i n : Nat) : Prop := i + n ≤ ks.length ∧ ∀ k, i ≤ k → k < i + n → ks[k]? = some 0
/-- ks with n from i on taken -/
def took (ks ks' : List UInt8) (i n : Nat) : Prop := ks'.length = ks.length ∧ ∀ k, ks'[k]? = if i ≤ k ∧ k < i + n then some 1 else ks[k]?
theorem took_step {ks x : List UInt8} {i k : Nat} (h : took ks x i k) (hk : i + k < ks.length) : took ks (x.set (i + k) 1) i (k + 1) := by
  refine ⟨by simp [h.1], fun j => ?_⟩
  rw [List.getElem?_set]
  have := h.2 j
  by_cases e : i + k = j
  · subst e
    rw [if_pos rfl, if_pos (by rw [h.1]; exact hk), if_pos (by omega)]
  · rw [if_neg e, this]
    by_cases e2 : i ≤ j ∧ j < i + k
    · rw [if_pos e2, if_pos (by omega)]
    · rw [if_neg e2, if_neg (by omega)]
theorem fill_l2 (m : S_free_Map) (at_ n : Nat) (h : at_ + n ≤ m.kinds.length) (hk : m.kinds.length ≤ 1024) :
    ∃ ks', took m.kinds ks' at_ n ∧ free_Map_TakeRun.l2 m (n : Int) (at_ : Int) FUEL m.kinds ((0 : Nat) : Int) = some (wi64 (m.from_ + at_), 0, ⟨m.from_, ks'⟩) := by
  have h : ∀ x : List UInt8, took m.kinds x at_ 0 → ∃ ks', took m.kinds ks' at_ n ∧ free_Map_TakeRun.l2 m (n : Int) (at_ : Int) FUEL x ((0 : Nat) : Int) = some (wi64 (m.from_ + at_), 0, ⟨m.from_, ks'⟩) := by
    refine idx_ind (P := fun d k => ∀ x : List UInt8, took m.kinds x at_ k → ∃ ks', took m.kinds ks' at_ n ∧ free_Map_TakeRun.l2 m (n : Int) (at_ : Int) d x (k : Int) = some (wi64 (m.from_ + at_), 0, ⟨m.from_, ks'⟩)) n (by omega) (fun d x hx => ?_) (fun d k hi ih x hx => ?_)
    · exact ⟨x, hx, by rw [free_Map_TakeRun.l2, if_neg (by omega)]⟩
    · have hx1 := hx.1
      have e : wi64 ((at_ : Int) + (k : Int)) = ((at_ + k : Nat) : Int) := by rw [wi64_id (by omega)]; rfl
      rw [free_Map_TakeRun.l2, if_pos (by omega), e, if_pos (by omega), wi_succ hi (by omega), Int.toNat_natCast]
      exact ih _ (took_step hx (by omega))
  exact h _ ⟨rfl, fun k => by rw [if_neg (by omega)]⟩
theorem fill_l3 (m : S_free_Map) (at_ n : Nat) (h : at_ + n ≤ m.kinds.length) (hk : m.kinds.length ≤ 1024) :
    ∃ ks', took m.kinds ks' at_ n ∧ free_Map_TakeRun.l3 m (n : Int) (at_ : Int) FUEL m.kinds ((0 : Nat) : Int) = some (wi64 (m.from_ + at_), 0, ⟨m.from_, ks'⟩) := by
  have h : ∀ x : List UInt8, took m.kinds x at_ 0 → ∃ ks', took m.kinds ks' at_ n ∧ free_Map_TakeRun.l3 m (n : Int) (at_ : Int) FUEL x ((0 : Nat) : Int) = some (wi64 (m.from_ + at_), 0, ⟨m.from_, ks'⟩) := by
    refine idx_ind (P := fun d k => ∀ x : List UInt8, took m.kinds x at_ k → ∃ ks', took m.kinds ks' at_ n ∧ free_Map_TakeRun.l3 m (n : Int) (at_ : Int) d x (k : Int) = some (wi64 (m.from_ + at_), 0, ⟨m.from_, ks'⟩)) n (by omega) (fun d x hx => ?_) (fun d k hi ih x hx => ?_)
    · exact ⟨x, hx, by rw [free_Map_TakeRun.l3, if_neg (by omega)]⟩
    · have hx1 := hx.1
      have e : wi64 ((at_ : Int) + (k : Int)) = ((at_ + k : Nat) : Int) := by rw [wi64_id (by omega)]; rfl
      rw [free_Map_TakeRun.l3, if_pos (by omega), e, if_pos (by omega), wi_succ hi (by omega), Int.toNat_natCast]
      exact ih _ (took_step hx (by omega))
  exact h _ ⟨rfl, fun k => by rw [if_neg (by omega)]⟩
theorem scan_l1 (m : S_free_Map) (at_ n : Nat) (hf : 0 ≤ m.from_ ∧ m.from_ ≤ 1024) (h : at_ + n ≤ m.kinds.length) (hk : m.kinds.length ≤ 1024) (kont : Int → Option (Int × Int × S_free_Map)) :
    (run m.kinds at_ n ∧ ∃ ks', took m.kinds ks' at_ n ∧ free_Map_TakeRun.l1 m (n : Int) kont FUEL (at_ : Int) (at_ : Int) = some (m.from_ + at_, 0, ⟨m.from_, ks'⟩)) ∨
    (∃ k, at_ ≤ k ∧ k < at_ + n ∧ m.kinds[k]? ≠ some 0 ∧ free_Map_TakeRun.l1 m (n : Int) kont FUEL (at_ : Int) (at_ : Int) = kont ((k + 1 : Nat) : Int)) := by
  have e : wi64 ((at_ : Int) + (n : Int)) = ((at_ + n : Nat) : Int) := by rw [wi64_id (by omega)]; rfl
  have e2 : wi64 ((m.kinds.length : Int) - (n : Int)) = ((m.kinds.length : Int) - (n : Int)) := wi64_id (by omega)
  have h1 : (∀ j, at_ ≤ j → j < at_ → m.kinds[j]? = some 0) → (run m.kinds at_ n ∧ ∃ ks', took m.kinds ks' at_ n ∧ free_Map_TakeRun.l1 m (n : Int) kont FUEL (at_ : Int) (at_ : Int) = some (m.from_ + at_, 0, ⟨m.from_, ks'⟩)) ∨
      (∃ k, at_ ≤ k ∧ k < at_ + n ∧ m.kinds[k]? ≠ some 0 ∧ free_Map_TakeRun.l1 m (n : Int) kont FUEL (at_ : Int) (at_ : Int) = kont ((k + 1 : Nat) : Int)) := by
    refine idx_from (P := fun d i => (∀ j, at_ ≤ j → j < i → m.kinds[j]? = some 0) → (run m.kinds at_ n ∧ ∃ ks', took m.kinds ks' at_ n ∧ free_Map_TakeRun.l1 m (n : Int) kont d (at_ : Int) (i : Int) = some (m.from_ + at_, 0, ⟨m.from_, ks'⟩)) ∨
      (∃ k, at_ ≤ k ∧ k < at_ + n ∧ m.kinds[k]? ≠ some 0 ∧ free_Map_TakeRun.l1 m (n : Int) kont d (at_ : Int) (i : Int) = kont ((k + 1 : Nat) : Int))) (at_ + n) at_ (by omega) (by omega) (fun d hj => ?_) (fun d i h0 hi ih hj => ?_)
    · left
      obtain ⟨ks', ht, he⟩ := fill_l2 m at_ n h hk
      refine ⟨⟨h, hj⟩, ks', ht, ?_⟩
      rw [free_Map_TakeRun.l1, e, if_neg (by omega), e2, if_neg (by omega)]
      refine he.trans ?_
      rw [wi64_id (by omega)]
    · have hi' : i < m.kinds.length := by omega
      have hstep : free_Map_TakeRun.l1 m (n : Int) kont (d + 1) (at_ : Int) (i : Int) = if m.kinds[i] ≠ 0 then kont ((i + 1 : Nat) : Int) else free_Map_TakeRun.l1 m (n : Int) kont d (at_ : Int) ((i + 1 : Nat) : Int) := by
        rw [free_Map_TakeRun.l1, e, if_pos (by omega), if_pos (by omega), getD_at hi', wi_succ hi' (by omega)]
      rw [hstep]
      by_cases hz : m.kinds[i] = 0
      · rw [if_neg (by simp [hz])]
        refine ih (fun j h1 h2 => ?_)
        by_cases hji : j = i
        · subst hji; rw [List.getElem?_eq_getElem hi', hz]
        · exact hj j h1 (by omega)
      · rw [if_pos hz]
        exact .inr ⟨i, h0, hi, by rw [List.getElem?_eq_getElem hi']; simpa using hz, rfl⟩
  exact h1 (fun j h1 h2 => by omega)
theorem TakeRun_l0 (m : S_free_Map) (n : Nat) (hn : 1 ≤ n) (hf : 0 ≤ m.from_ ∧ m.from_ ≤ 1024) (hk : m.kinds.length ≤ 1024) (hnn : n ≤ m.kinds.length) : ∀ (d at_ : Nat), m.kinds.length < at_ + d → (∀ j, j < at_ → ¬ run m.kinds j n) →
    (∃ i ks', run m.kinds i n ∧ (∀ j, j < i → ¬ run m.kinds j n) ∧ took m.kinds ks' i n ∧ free_Map_TakeRun.l0 m (n : Int) d (at_ : Int) = some (m.from_ + (i : Int), 0, ⟨m.from_, ks'⟩)) ∨
    ((∀ j, ¬ run m.kinds j n) ∧ (free_Map_TakeRun.l0 m (n : Int) d (at_ : Int) = some (0, 5, m) ∨ m.kinds.length < at_))
  | 0, at_, hd, hno => .inr ⟨fun j hj => by
      by_cases h : j < at_
      · exact hno j h hj
      · have := hj.1; omega, .inr (by omega)⟩
  | d + 1, at_, hd, hno => by
    have e2 : wi64 ((m.kinds.length : Int) - (n : Int)) = ((m.kinds.length : Int) - (n : Int)) := wi64_id (by omega)
    have hstep : free_Map_TakeRun.l0 m (n : Int) (d + 1) (at_ : Int) = if (at_ : Int) ≤ (m.kinds.length : Int) - (n : Int) then free_Map_TakeRun.l1 m (n : Int) (free_Map_TakeRun.l0 m (n : Int) d) FUEL (at_ : Int) (at_ : Int) else some (0, 5, m) := by
      rw [free_Map_TakeRun.l0, e2]
      by_cases h : (at_ : Int) ≤ (m.kinds.length : Int) - (n : Int)
      · rw [if_pos h, if_pos h]
      · rw [if_neg h, if_neg h, if_pos (by omega)]
    rw [hstep]
    by_cases h : (at_ : Int) ≤ (m.kinds.length : Int) - (n : Int)
    · rw [if_pos h]
      rcases scan_l1 m at_ n hf (by omega) hk (free_Map_TakeRun.l0 m (n : Int) d) with ⟨hr, ks', ht, he⟩ | ⟨k, h1, h2, h3, he⟩
      · exact .inl ⟨at_, ks', hr, hno, ht, he⟩
      · rw [he]
        have hno' : ∀ j, j < k + 1 → ¬ run m.kinds j n := by
          intro j hj hr
          by_cases hja : j < at_
          · exact hno j hja hr
          · exact h3 (hr.2 k (by omega) (by omega))
        rcases TakeRun_l0 m n hn hf hk hnn d (k + 1) (by omega) hno' with hl | ⟨hl, hl2 | hl2⟩
        · exact .inl hl
        · exact .inr ⟨hl, .inl hl2⟩
        · omega
    · rw [if_neg h]
      refine .inr ⟨fun j hj => ?_, .inl rfl⟩
      by_cases hja : j < at_
      · exact hno j hja hj
      · have := hj.1; omega
theorem TakeRun_eq (f : Int) (ks : List UInt8) (n : Int) (hf : 0 ≤ f ∧ f ≤ 1024) (hk : ks.length ≤ 1024) (hn : 1 ≤ n ∧ n < 9223372036854775808) :
    (∃ i ks', run ks i n.toNat ∧ (∀ j, j < i → ¬ run ks j n.toNat) ∧ took ks ks' i n.toNat ∧ free_Map_TakeRun.f ⟨f, ks⟩ n = some (f + (i : Int), 0, ⟨f, ks'⟩)) ∨
    ((∀ j, ¬ run ks j n.toNat) ∧ free_Map_TakeRun.f ⟨f, ks⟩ n = some (0, 5, ⟨f, ks⟩)) := by
  unfold free_Map_TakeRun.f
  rw [if_neg (by omega)]
  have e2 : wi64 ((ks.length : Int) - n) = ((ks.length : Int) - n) := wi64_id (by omega)
  by_cases h : n ≤ ks.length
  · have e : ((n.toNat : Nat) : Int) = n := by omega
    have := TakeRun_l0 ⟨f, ks⟩ n.toNat (by omega) hf hk (by dsimp only; omega) FUEL 0 (by rw [FUEL_val]; dsimp only; omega) (fun j hj => by omega)
    rw [e] at this
    rcases this with h | ⟨h1, h2 | h2⟩
    · exact .inl h
    · exact .inr ⟨h1, h2⟩
    · dsimp only at h2; omega
  · right
    refine ⟨fun j hj => by have := hj.1; omega, ?_⟩
    rw [FUEL_succ, free_Map_TakeRun.l0]
    dsimp only
    rw [e2, if_neg (by omega), if_pos (by omega)]
/-! one block turned -/
theorem turn_eq (f : Int) (ks : List UInt8) (i : Int) (c : UInt8) (hf : 0 ≤ f ∧ f ≤ 1024) (hk : ks.length ≤ 1024) (hi : -9223372036854775808 ≤ i ∧ i < 9223372036854775808) :
    free_Map_turn.f ⟨f, ks⟩ i c = some (if f ≤ i ∧ ks[(i - f).toNat]? = some 1 then (0, ⟨f, ks.set (i - f).toNat c⟩) else (4, ⟨f, ks⟩)) := by
  unfold free_Map_turn.f
  dsimp only
  by_cases h1 : i < f
  · rw [if_pos h1, if_neg (by omega)]
  rw [if_neg h1, wi64_id (by omega)]
  by_cases h2 : (ks.length : Int) ≤ i - f
  · rw [if_pos h2, if_neg (fun h => by
      have := (List.getElem?_eq_some_iff.1 h.2).1
      omega)]
  have h3 : (i - f).toNat < ks.length := by omega
  rw [if_neg h2, if_pos (by omega), List.getD_eq_getElem?_getD, List.getElem?_eq_getElem h3, Option.getD_some]
  by_cases h4 : ks[(i - f).toNat] = 1
  · rw [if_neg (by simp [h4]), if_pos (by omega), if_pos ⟨by omega, by rw [h4]⟩]
  · rw [if_pos h4, if_neg (by simp [h4])]
/-! what waits is swept -/
theorem Contains_eq (l : List Int) (t : Int) (hl : l.length ≤ 9223372036854775807) : slices_Contains_Lint_int.f l t = some (decide (t ∈ l)) := by
  have hI : ∃ r, slices_Index_Lint_int.f l t = some r ∧ (0 ≤ r ↔ t ∈ l) := by
    unfold slices_Index_Lint_int.f
    refine idx_ind (P := fun d i => ∃ r, slices_Index_Lint_int.l0 l t d (i : Int) = some r ∧ (0 ≤ r ↔ t ∈ l.drop i)) l.length hl (fun d => ?_) (fun d i hi ih => ?_)
    · refine ⟨-1, ?_, by simp⟩
      rw [slices_Index_Lint_int.l0, if_neg (by omega)]
    · obtain ⟨r, h1, h2⟩ := ih
      rw [slices_Index_Lint_int.l0, if_pos (by omega), if_pos (by omega), getD_at hi, mem_drop hi]
      by_cases e : t = l[i]
      · exact ⟨i, by rw [if_pos e], by simp only [e, true_or, iff_true]; omega⟩
      · exact ⟨r, by rw [if_neg e, wi_succ hi hl]; exact h1, by rw [h2]; simp only [e, false_or]⟩
  unfold slices_Contains_Lint_int.f
  obtain ⟨r, h1, h2⟩ := hI
  rw [h1]
  simp [h2]
/-- ks with what waits and is not kept freed -/
def swept (f : Int) (ks ks' : List UInt8) (keep : List Int) : Prop := ks'.length = ks.length ∧ ∀ j : Nat, ks'[j]? = if ks[j]? = some 2 ∧ f + (j : Int) ∉ keep then some 0 else ks[j]?
theorem filter_step {l : List Int} {i : Nat} (h : i < l.length) (p : Int → Bool) : (l.take (i + 1)).filter p = (l.take i).filter p ++ if p l[i] = true then [l[i]] else [] := by
  rw [List.take_succ_eq_append_getElem h, List.filter_append, List.filter_cons, List.filter_nil]
theorem mem_take {l : List Int} {i : Nat} (h : i < l.length) (x : Int) : x ∈ l.take (i + 1) ↔ x ∈ l.take i ∨ x = l[i] := by
  rw [List.take_succ_eq_append_getElem h, List.mem_append, List.mem_singleton]
theorem Sweep_eq (f : Int) (ks : List UInt8) (keep : List Int) (hf : 0 ≤ f ∧ f ≤ 1024) (hk : ks.length ≤ 1024) (hl : keep.length ≤ 9223372036854775807) :
    ∃ ks', swept f ks ks' keep ∧ free_Map_Sweep.f ⟨f, ks⟩ keep = some (((((allFrom 2 f ks).filter fun x => decide (x ∉ keep)).length : Nat) : Int), ⟨f, ks'⟩) := by
  unfold free_Map_Sweep.f
  rw [Waiting_eq f ks hf hk, Option.bind_some]
  dsimp only
  generalize hw : allFrom 2 f ks = w
  have hwl : w.length ≤ 1024 := by
    rw [← hw, allFrom_len]
    exact Nat.le_trans List.countP_le_length hk
  have hwm : ∀ x ∈ w, ∃ i : Nat, ks[i]? = some 2 ∧ x = f + i := fun x hx => (allFrom_mem 2 x f ks).1 (by rw [hw]; exact hx)
  have h : ∀ x : List UInt8, (x.length = ks.length ∧ ∀ j : Nat, x[j]? = if f + (j : Int) ∈ w.take 0 ∧ f + (j : Int) ∉ keep then some 0 else ks[j]?) →
      ∃ ks', swept f ks ks' keep ∧ free_Map_Sweep.l0 keep w FUEL f x (((((w.take 0).filter fun x => decide (x ∉ keep)).length : Nat) : Int)) ((0 : Nat) : Int) = some ((((w.filter fun x => decide (x ∉ keep)).length : Nat) : Int), ⟨f, ks'⟩) := by
    refine idx_ind (P := fun d i => ∀ x : List UInt8, (x.length = ks.length ∧ ∀ j : Nat, x[j]? = if f + (j : Int) ∈ w.take i ∧ f + (j : Int) ∉ keep then some 0 else ks[j]?) →
      ∃ ks', swept f ks ks' keep ∧ free_Map_Sweep.l0 keep w d f x (((((w.take i).filter fun x => decide (x ∉ keep)).length : Nat) : Int)) (i : Int) = some ((((w.filter fun x => decide (x ∉ keep)).length : Nat) : Int), ⟨f, ks'⟩)) w.length (by omega) (fun d x hx => ?_) (fun d i hi ih x hx => ?_)
    · obtain ⟨hx, hc⟩ := hx
      refine ⟨x, ⟨hx, fun j => ?_⟩, by rw [free_Map_Sweep.l0, if_neg (by omega), List.take_length]⟩
      rw [hc j, List.take_length]
      have e : f + (j : Int) ∈ w ↔ ks[j]? = some 2 := by
        rw [← hw, allFrom_mem]
        constructor
        · rintro ⟨i, h1, h2⟩
          rw [show j = i by omega]; exact h1
        · intro h; exact ⟨j, h, rfl⟩
      simp only [e]
    · obtain ⟨hx, hc⟩ := hx
      obtain ⟨k, hk2, hke⟩ := hwm w[i] (List.getElem_mem hi)
      have hkl : k < ks.length := (List.getElem?_eq_some_iff.1 hk2).1
      have e1 : wi64 (w[i] - f) = (k : Int) := by rw [hke, wi64_id (by omega)]; omega
      have hfl : ((w.take i).filter fun x => decide (x ∉ keep)).length ≤ 1024 := Nat.le_trans (List.length_filter_le _ _) (by rw [List.length_take]; omega)
      rw [free_Map_Sweep.l0, if_pos (by omega), if_pos (by omega), getD_at hi, Contains_eq _ _ hl, Option.bind_some, e1, wi_succ hi (by omega)]
      have hfs := filter_step hi fun x => decide (x ∉ keep)
      by_cases hin : w[i] ∈ keep
      · rw [if_neg (by simp [hin])]
        have hfs' : (w.take (i + 1)).filter (fun x => decide (x ∉ keep)) = (w.take i).filter (fun x => decide (x ∉ keep)) := by rw [hfs, if_neg (by simp [hin]), List.append_nil]
        rw [← hfs']
        refine ih x ⟨hx, fun j => ?_⟩
        rw [hc j]
        simp only [mem_take hi]
        by_cases hj : f + (j : Int) ∈ keep
        · simp [hj]
        · have hne : f + (j : Int) ≠ w[i] := fun h => hj (h ▸ hin)
          simp [hj, hne]
      · rw [if_pos (by simp [hin]), if_pos (by omega), Int.toNat_natCast, wi64_id (by omega)]
        have hfs' : ((w.take (i + 1)).filter (fun x => decide (x ∉ keep))).length = ((w.take i).filter (fun x => decide (x ∉ keep))).length + 1 := by rw [hfs, if_pos (by simp [hin]), List.length_append]; rfl
        have e3 : ((((w.take i).filter fun x => decide (x ∉ keep)).length : Nat) : Int) + 1 = ((((w.take (i + 1)).filter fun x => decide (x ∉ keep)).length : Nat) : Int) := by rw [hfs']; rfl
        rw [e3]
        refine ih _ ⟨by simp [hx], fun j => ?_⟩
        rw [List.getElem?_set]
        simp only [mem_take hi]
        by_cases hj : k = j
        · subst hj
          rw [if_pos rfl, if_pos (by omega), if_pos ⟨.inr hke.symm, by rw [← hke]; exact hin⟩]
        · rw [if_neg hj, hc j]
          have hne : f + (j : Int) ≠ w[i] := by omega
          simp [hne]
  exact h ks ⟨rfl, fun j => by simp⟩
/-! what waits is not taken -/
theorem or_drop {l : List Int} {i : Nat} (h : i < l.length) (x : Int) (b : Bool) : (if b = true then true else decide (l[i] = x) || decide (x ∈ l.drop (i + 1))) = (b || decide (x ∈ l.drop i)) := by
  cases b
  · rw [if_neg (by decide), Bool.false_or, Bool.eq_iff_iff]
    simp only [Bool.or_eq_true, decide_eq_true_eq, mem_drop h]
    constructor
    · rintro (h | h)
      · exact .inl h.symm
      · exact .inr h
    · rintro (h | h)
      · exact .inl h.symm
      · exact .inr h
  · simp
theorem waits_l1 (i : Int) (k : Int → List UInt8 → Int → Option Bool) (wait : List Int) (n : Int) (r : Int × Int × S_free_Map) (hl : wait.length ≤ 1024) (h : ∀ w ∈ wait, r.2.1 = 0 → r.1 ≤ w → ¬ w < wi64 (r.1 + n)) :
    armoirelaw06_FreeWaits.l1 i k wait n r FUEL ((0 : Nat) : Int) = k r.2.2.from_ r.2.2.kinds (wi64 (i + 1)) := by
  refine idx_ind (P := fun d j => armoirelaw06_FreeWaits.l1 i k wait n r d (j : Int) = k r.2.2.from_ r.2.2.kinds (wi64 (i + 1))) wait.length (by omega) (fun d => ?_) (fun d j hj ih => ?_)
  · rw [armoirelaw06_FreeWaits.l1, if_neg (by omega)]
  · rw [armoirelaw06_FreeWaits.l1, if_pos (by omega), if_pos (by omega), getD_at hj, wi_succ hj (by omega), ih]
    by_cases h1 : r.2.1 = 0
    · rw [if_pos h1]
      by_cases h2 : r.1 ≤ wait[j]
      · rw [if_pos h2, if_neg (h _ (List.getElem_mem hj) h1 h2)]
      · rw [if_neg h2]
    · rw [if_neg h1]
theorem waits_l4 (wait : List Int) {j : Nat} (hj : j < wait.length) (k : Int → Option Bool) (b : Bool) (after : List Int) (ha : after.length ≤ 1024) :
    armoirelaw06_FreeWaits.l4 wait (j : Int) k b after FUEL false ((0 : Nat) : Int) = if (b != decide (wait[j] ∈ after)) = true then some false else k (wi64 ((j : Int) + 1)) := by
  have h : ∀ c : Bool, armoirelaw06_FreeWaits.l4 wait (j : Int) k b after FUEL c ((0 : Nat) : Int) = if (b != (c || decide (wait[j] ∈ after.drop 0))) = true then some false else k (wi64 ((j : Int) + 1)) := by
    refine idx_ind (P := fun d i => ∀ c : Bool, armoirelaw06_FreeWaits.l4 wait (j : Int) k b after d c (i : Int) = if (b != (c || decide (wait[j] ∈ after.drop i))) = true then some false else k (wi64 ((j : Int) + 1))) after.length (by omega) (fun d c => ?_) (fun d i hi ih c => ?_)
    · rw [armoirelaw06_FreeWaits.l4, if_neg (by omega), List.drop_length]; simp
    · rw [armoirelaw06_FreeWaits.l4, if_pos (by omega), if_pos (by omega), getD_at hi, getD_at hj, wi_succ hi (by omega), ih, ih, ← or_drop hi wait[j] c]
      cases c <;> simp
  have := h false
  simpa using this
theorem waits_l3 (a1 : List S_armoirelaw06_Op) {i : Nat} (hi : i < a1.length) (wait : List Int) (r : Int × S_free_Map) {j : Nat} (hj : j < wait.length) (k : Int → Option Bool) (after : List Int) (ha : after.length ≤ 1024) (hw : free_Map_Waiting.f r.2 = some after) (hk : a1[i].keep.length ≤ 9223372036854775807) :
    armoirelaw06_FreeWaits.l3 a1 (i : Int) wait r (j : Int) k FUEL false ((0 : Nat) : Int) = if (decide (wait[j] ∈ a1[i].keep) != decide (wait[j] ∈ after)) = true then some false else k (wi64 ((j : Int) + 1)) := by
  have h : ∀ c : Bool, armoirelaw06_FreeWaits.l3 a1 (i : Int) wait r (j : Int) k FUEL c ((0 : Nat) : Int) = if ((c || decide (wait[j] ∈ a1[i].keep.drop 0)) != decide (wait[j] ∈ after)) = true then some false else k (wi64 ((j : Int) + 1)) := by
    refine idx_ind (P := fun d m => ∀ c : Bool, armoirelaw06_FreeWaits.l3 a1 (i : Int) wait r (j : Int) k d c (m : Int) = if ((c || decide (wait[j] ∈ a1[i].keep.drop m)) != decide (wait[j] ∈ after)) = true then some false else k (wi64 ((j : Int) + 1))) a1[i].keep.length (by omega) (fun d c => ?_) (fun d m hm ih c => ?_)
    · rw [armoirelaw06_FreeWaits.l3, getD_at hi, if_neg (by omega), hw, Option.bind_some, List.drop_length]
      refine (waits_l4 wait hj k c after ha).trans ?_
      simp
    · rw [armoirelaw06_FreeWaits.l3, getD_at hi, if_pos (by omega), if_pos (by omega), getD_at hm, getD_at hj, wi_succ hm (by omega), ih, ih, ← or_drop hm wait[j] c]
      cases c <;> simp
  have := h false
  simpa using this
theorem waits_l2 (a1 : List S_armoirelaw06_Op) {i : Nat} (hi : i < a1.length) (k : Int → List UInt8 → Int → Option Bool) (wait : List Int) (hl : wait.length ≤ 1024) (r : Int × S_free_Map) (after : List Int) (ha : after.length ≤ 1024) (hw : free_Map_Waiting.f r.2 = some after) (hk : a1[i].keep.length ≤ 9223372036854775807)
    (h : ∀ w ∈ wait, (w ∈ a1[i].keep ↔ w ∈ after)) : armoirelaw06_FreeWaits.l2 a1 (i : Int) k wait r FUEL ((0 : Nat) : Int) = k r.2.from_ r.2.kinds (wi64 ((i : Int) + 1)) := by
  refine idx_ind (P := fun d j => armoirelaw06_FreeWaits.l2 a1 (i : Int) k wait r d (j : Int) = k r.2.from_ r.2.kinds (wi64 ((i : Int) + 1))) wait.length (by omega) (fun d => ?_) (fun d j hj ih => ?_)
  · rw [armoirelaw06_FreeWaits.l2, if_neg (by omega)]
  · rw [armoirelaw06_FreeWaits.l2, if_pos (by omega), if_pos (by omega)]
    refine (waits_l3 a1 hi wait r hj _ after ha hw hk).trans ?_
    rw [if_neg (by simp [h _ (List.getElem_mem hj)]), wi_succ hj (by omega)]
    exact ih
theorem Defer_eq (f : Int) (ks : List UInt8) (i : Int) (hf : 0 ≤ f ∧ f ≤ 1024) (hk : ks.length ≤ 1024) (hi : -9223372036854775808 ≤ i ∧ i < 9223372036854775808) :
    free_Map_Defer.f ⟨f, ks⟩ i = some (if f ≤ i ∧ ks[(i - f).toNat]? = some 1 then (0, ⟨f, ks.set (i - f).toNat 2⟩) else (4, ⟨f, ks⟩)) := by
  unfold free_Map_Defer.f
  rw [turn_eq f ks i 2 hf hk hi]; rfl
theorem rng64 {n : Int} (h : (Lit.int .i64 n).wf = true) : -9223372036854775808 ≤ n ∧ n < 9223372036854775808 := by
  simp [Lit.wf] at h
  have e1 : IntKind.min .i64 = -9223372036854775808 := by decide +kernel
  have e2 : IntKind.max .i64 = 9223372036854775807 := by decide +kernel
  omega
def opOk (x : S_armoirelaw06_Op) : Prop := (Lit.int .i64 x.do_).wf = true ∧ (Lit.int .i64 x.n).wf = true ∧ (x.keep.length ≤ maxLen ∧ ∀ y ∈ x.keep, (Lit.int .i64 y).wf = true) ∧ True
theorem waits_j3 (i : Int) (ks : List UInt8) (hks : ks.length ≤ 1024) (k : Int → List UInt8 → Int → Option Bool) (n : Int) (hn : 1 ≤ n ∧ n ≤ 5) (hkont : ∀ ks' : List UInt8, ks'.length = ks.length → k 0 ks' (wi64 (i + 1)) = some true) :
    armoirelaw06_FreeWaits.j3 0 ks i k (allFrom 2 0 ks) n = some true := by
  unfold armoirelaw06_FreeWaits.j3
  have hwl : (allFrom 2 0 ks).length ≤ 1024 := by rw [allFrom_len]; exact Nat.le_trans List.countP_le_length hks
  rcases TakeRun_eq 0 ks n (by omega) hks (by omega) with ⟨p, ks', hr, _, ht, he⟩ | ⟨_, he⟩
  · rw [he, Option.bind_some]
    refine (waits_l1 i k _ n _ hwl (fun w hw _ h1 h2 => ?_)).trans (hkont ks' ht.1)
    obtain ⟨q, hq, rfl⟩ := (allFrom_mem 2 w 0 ks).1 hw
    dsimp only at h1 h2
    have := hr.1
    rw [wi64_id (by omega)] at h2
    have h0 := hr.2 q (by omega) (by omega)
    rw [hq] at h0
    exact absurd h0 (by decide)
  · rw [he, Option.bind_some]
    exact (waits_l1 i k _ n _ hwl (fun w hw h0 => absurd h0 (by simp))).trans (hkont ks rfl)
theorem armoirelaw06_FreeWaitsLaw {P1 : Prop} (a : Int) (l : List S_armoirelaw06_Op) (wa : P1) (wl : l.length ≤ 140737488351232 ∧ ∀ x ∈ l, opOk x) : armoirelaw06_FreeWaits.f a l = some true := by
  unfold armoirelaw06_FreeWaits.f
  rw [live_true, Option.bind_some]
  have t1 := Int.lt_tmod_of_pos a (show (0 : Int) < 40 by decide)
  have t2 := Int.tmod_lt_of_pos a (show (0 : Int) < 40 by decide)
  have e1 : wi64 (Int.tmod a 40 + 40) = Int.tmod a 40 + 40 := wi64_id (by omega)
  have t3 := Int.tmod_nonneg 40 (show 0 ≤ Int.tmod a 40 + 40 by omega)
  have t4 := Int.tmod_lt_of_pos (Int.tmod a 40 + 40) (show (0 : Int) < 40 by decide)
  have e2 : wi64 (1 + Int.tmod (wi64 (Int.tmod a 40 + 40)) 40) = 1 + Int.tmod (Int.tmod a 40 + 40) 40 := by rw [e1]; exact wi64_id (by omega)
  rw [e2]
  have e3 : wi64 (1 + Int.tmod (Int.tmod a 40 + 40) 40 - 0) = 1 + Int.tmod (Int.tmod a 40 + 40) 40 := by rw [Int.sub_zero]; exact wi64_id (by omega)
  generalize hN : 1 + Int.tmod (Int.tmod a 40 + 40) 40 = N at e2 e3
  have hN1 : 1 ≤ N ∧ N ≤ 40 := by omega
  rw [if_neg (by omega), if_neg (by omega), FUEL_succ, armoirelaw06_FreeWaits.l6, if_neg (by omega), armoirelaw06_FreeWaits.j4, if_neg (by decide), e2, e3, if_pos (by omega), FUEL_succ, armoirelaw06_FreeWaits.l5, if_neg (by omega), e2, e3]
  unfold armoirelaw06_FreeWaits.j1
  by_cases h100 : 100 < (l.length : Int)
  · rw [if_pos h100]; rfl
  rw [if_neg h100]
  have h : ∀ ks : List UInt8, ks.length ≤ 40 → armoirelaw06_FreeWaits.l0 l true FUEL 0 ks ((0 : Nat) : Int) = some true := by
    refine idx_ind (P := fun d i => ∀ ks : List UInt8, ks.length ≤ 40 → armoirelaw06_FreeWaits.l0 l true d 0 ks (i : Int) = some true) l.length (by omega) (fun d ks hk => ?_) (fun d i hi ih ks hk => ?_)
    · rw [armoirelaw06_FreeWaits.l0, if_neg (by omega)]
    · obtain ⟨o1, o2, ⟨o3, _⟩, _⟩ := wl.2 _ (List.getElem_mem hi)
      have hon := rng64 o2
      have next : ∀ ks' : List UInt8, ks'.length = ks.length → armoirelaw06_FreeWaits.l0 l true d 0 ks' (wi64 ((i : Int) + 1)) = some true := by
        intro ks' h'
        rw [wi_succ hi (by omega)]
        exact ih ks' (by omega)
      have hj2 : ∀ b : Bool, armoirelaw06_FreeWaits.j2 l 0 ks (i : Int) (armoirelaw06_FreeWaits.l0 l true d) (allFrom 2 0 ks) b = some true := by
        intro b
        unfold armoirelaw06_FreeWaits.j2
        rw [getD_at hi]
        cases b
        · rw [if_neg (by decide)]
          by_cases h3 : l[i].do_ = 3
          · rw [if_pos h3, Defer_eq 0 ks _ (by omega) (by omega) hon, Option.bind_some]
            split
            · exact next _ (by simp)
            · exact next _ rfl
          · rw [if_neg h3]
            by_cases h4 : l[i].do_ = 4
            · rw [if_pos h4]
              obtain ⟨ks', hs, he⟩ := Sweep_eq 0 ks l[i].keep (by omega) (by omega) o3
              have hwl : (allFrom 2 0 ks).length ≤ 1024 := by rw [allFrom_len]; exact Nat.le_trans List.countP_le_length (by omega)
              have hwl' : (allFrom 2 0 ks').length ≤ 1024 := by rw [allFrom_len]; exact Nat.le_trans List.countP_le_length (by rw [hs.1]; omega)
              rw [he, Option.bind_some]
              refine (waits_l2 l hi _ _ hwl _ (allFrom 2 0 ks') hwl' (Waiting_eq 0 ks' (by omega) (by rw [hs.1]; omega)) o3 (fun w hw => ?_)).trans (next ks' hs.1)
              obtain ⟨q, hq, rfl⟩ := (allFrom_mem 2 w 0 ks).1 hw
              rw [allFrom_mem]
              constructor
              · intro hin
                exact ⟨q, by rw [hs.2 q, if_neg (fun h => h.2 hin)]; exact hq, rfl⟩
              · rintro ⟨q', hq', e⟩
                rw [show q' = q by omega, hs.2 q] at hq'
                by_cases hin : (0 : Int) + (q : Int) ∈ l[i].keep
                · exact hin
                · rw [if_pos ⟨hq, hin⟩] at hq'
                  exact absurd hq' (by decide)
            · rw [if_neg h4]
              exact next ks rfl
        · rw [if_pos rfl]
          have u1 := Int.lt_tmod_of_pos l[i].n (show (0 : Int) < 5 by decide)
          have u2 := Int.tmod_lt_of_pos l[i].n (show (0 : Int) < 5 by decide)
          have f1 : wi64 (Int.tmod l[i].n 5 + 5) = Int.tmod l[i].n 5 + 5 := wi64_id (by omega)
          have u3 := Int.tmod_nonneg 5 (show 0 ≤ Int.tmod l[i].n 5 + 5 by omega)
          have u4 := Int.tmod_lt_of_pos (Int.tmod l[i].n 5 + 5) (show (0 : Int) < 5 by decide)
          split
          · rw [f1, wi64_id (by omega)]
            exact waits_j3 _ ks (by omega) _ _ (by omega) next
          · exact waits_j3 _ ks (by omega) _ _ (by omega) next
      rw [armoirelaw06_FreeWaits.l0, if_pos (by omega), if_pos (by omega), Waiting_eq 0 ks (by omega) (by omega), Option.bind_some]
      split <;> exact hj2 _
  exact h _ (by simp; omega)
end Go.Proofs.Ytpffemcpfddjbaa
