/- The plain law of chapter 6: the first run (own text). -/
import Derived.Test.YtpffemcpfddjbaaAp
namespace Go.Proofs.Ytpffemcpfddjbaa
open Go K
set_option linter.unusedVariables false
theorem New1_eq (x f t : Int) : free_New_1.f x f t = some (decide (x < f ∨ t ≤ x)) := by
  unfold free_New_1.f
  by_cases h : x < f <;> simp [h]
/-- the places of a kind, from the first on -/
def places (c : UInt8) : Nat → List UInt8 → List Nat
  | _, [] => []
  | o, k :: r => if k = c then o :: places c (o + 1) r else places c (o + 1) r
theorem allFrom_places (c : UInt8) : ∀ (f : Int) (o : Nat) (ks : List UInt8), allFrom c (f + (o : Int)) ks = (places c o ks).map fun i : Nat => f + (i : Int)
  | _, _, [] => rfl
  | f, o, k :: r => by
    rw [allFrom_cons, show f + (o : Int) + 1 = f + ((o + 1 : Nat) : Int) by omega, allFrom_places c f (o + 1) r]
    show _ = (if k = c then o :: places c (o + 1) r else places c (o + 1) r).map _
    by_cases h : k = c
    · rw [if_pos h, if_pos h]; rfl
    · rw [if_neg h, if_neg h]
theorem places_mem (c : UInt8) (x : Nat) : ∀ (o : Nat) (ks : List UInt8), x ∈ places c o ks ↔ ∃ i : Nat, ks[i]? = some c ∧ x = o + i
  | _, [] => by simp [places]
  | o, k :: r => by
    have ih := places_mem c x (o + 1) r
    have e : (∃ i : Nat, (k :: r)[i]? = some c ∧ x = o + i) ↔ (k = c ∧ x = o) ∨ ∃ i : Nat, r[i]? = some c ∧ x = o + 1 + i := by
      constructor
      · rintro ⟨i, h1, h2⟩
        cases i with
        | zero => exact .inl ⟨by simpa using h1, by simpa using h2⟩
        | succ j => exact .inr ⟨j, by simpa using h1, by omega⟩
      · rintro (⟨h1, h2⟩ | ⟨i, h1, h2⟩)
        · exact ⟨0, by simp [h1], by simp [h2]⟩
        · exact ⟨i + 1, by simpa using h1, by omega⟩
    rw [e, ← ih]
    show x ∈ (if k = c then o :: places c (o + 1) r else places c (o + 1) r) ↔ _
    by_cases h : k = c
    · rw [if_pos h, List.mem_cons]; simp [h]
    · rw [if_neg h]; simp [h]
theorem places_up (c : UInt8) : ∀ (o : Nat) (ks : List UInt8), (places c o ks).Pairwise (· < ·)
  | _, [] => List.Pairwise.nil
  | o, k :: r => by
    show (if k = c then o :: places c (o + 1) r else places c (o + 1) r).Pairwise (· < ·)
    by_cases h : k = c
    · rw [if_pos h, List.pairwise_cons]
      refine ⟨fun x hx => ?_, places_up c (o + 1) r⟩
      obtain ⟨i, _, e⟩ := (places_mem c x (o + 1) r).1 hx
      omega
    · rw [if_neg h]; exact places_up c (o + 1) r
/-- a list that rises has steps of one or more -/
theorem up_gap {w : List Nat} (h : w.Pairwise (· < ·)) : ∀ (k m : Nat) (hm : k + m < w.length), w[k]'(by omega) + m ≤ w[k + m]
  | k, 0, hm => by simp
  | k, m + 1, hm => by
    have h1 := up_gap h k m (by omega)
    have h2 := List.pairwise_iff_getElem.1 h (k + m) (k + (m + 1)) (by omega) hm (by omega)
    omega
/-- where the last is so far off, all between are there -/
theorem up_run {w : List Nat} (h : w.Pairwise (· < ·)) {k n : Nat} (hn : k + n ≤ w.length) (h1 : 1 ≤ n) (he : w[k + n - 1]'(by omega) = w[k]'(by omega) + n - 1) : ∀ m, (hm : m < n) → w[k + m]'(by omega) = w[k]'(by omega) + m := by
  intro m hm
  have a := up_gap h k m (by omega)
  have b := up_gap h (k + m) (n - 1 - m) (by omega)
  have e : w[k + m + (n - 1 - m)]'(by omega) = w[k + n - 1]'(by omega) := by congr 1; omega
  omega
/-- the k-th place starts a run of n just if the n-1 next follow at once -/
theorem run_iff (ks : List UInt8) (n k : Nat) (h1 : 1 ≤ n) (hk : k < (places 0 0 ks).length) :
    run ks (places 0 0 ks)[k] n ↔ ∃ h : k + n ≤ (places 0 0 ks).length, (places 0 0 ks)[k + n - 1]'(by omega) = (places 0 0 ks)[k] + n - 1 := by
  have up := places_up 0 0 ks
  constructor
  · intro hr
    have hin : ∀ m, m < n → ∃ j, ∃ hj : j < (places 0 0 ks).length, (places 0 0 ks)[j] = (places 0 0 ks)[k] + m := by
      intro m hm
      have := (places_mem 0 ((places 0 0 ks)[k] + m) 0 ks).2 ⟨(places 0 0 ks)[k] + m, hr.2 _ (by omega) (by omega), by omega⟩
      obtain ⟨j, hj, e⟩ := List.getElem_of_mem this
      exact ⟨j, hj, e⟩
    have hall : ∀ m, m < n → ∃ h : k + m < (places 0 0 ks).length, (places 0 0 ks)[k + m] = (places 0 0 ks)[k] + m := by
      intro m
      induction m with
      | zero => intro _; exact ⟨by omega, by simp⟩
      | succ m ih =>
        intro hm
        obtain ⟨hl, he⟩ := ih (by omega)
        obtain ⟨j, hj, ej⟩ := hin (m + 1) hm
        have hgt : k + m < j := by
          rcases Nat.lt_or_ge (k + m) j with h | h
          · exact h
          · rcases Nat.lt_or_eq_of_le h with h2 | h2
            · have := List.pairwise_iff_getElem.1 up j (k + m) hj hl h2; omega
            · subst h2; omega
        have hl2 : k + (m + 1) < (places 0 0 ks).length := by omega
        refine ⟨hl2, ?_⟩
        have g1 := List.pairwise_iff_getElem.1 up (k + m) (k + (m + 1)) hl hl2 (by omega)
        rcases Nat.lt_or_eq_of_le (show k + (m + 1) ≤ j by omega) with h2 | h2
        · have := List.pairwise_iff_getElem.1 up (k + (m + 1)) j hl2 hj h2; omega
        · subst h2; exact ej
    obtain ⟨hl, he⟩ := hall (n - 1) (by omega)
    refine ⟨by omega, ?_⟩
    have e : (places 0 0 ks)[k + n - 1]'(by omega) = (places 0 0 ks)[k + (n - 1)]'(by omega) := by congr 1; omega
    rw [e, he]; omega
  · rintro ⟨h, he⟩
    have hr := up_run up h h1 he
    refine ⟨?_, fun q h2 h3 => ?_⟩
    · obtain ⟨i, hi, e⟩ := (places_mem 0 _ 0 ks).1 (List.getElem_mem (show k + n - 1 < (places 0 0 ks).length by omega))
      have := (List.getElem?_eq_some_iff.1 hi).1
      omega
    · have := hr (q - (places 0 0 ks)[k]) (by omega)
      obtain ⟨i, hi, e⟩ := (places_mem 0 _ 0 ks).1 (List.getElem_mem (show k + (q - (places 0 0 ks)[k]) < (places 0 0 ks).length by omega))
      rw [show q = i by omega]
      exact hi
theorem took_split {ks ks' : List UInt8} {i n : Nat} (hr : run ks i n) (ht : took ks ks' i n) : ks'.countP (· == 0) + n = ks.countP (· == 0) := by
  have e1 : ks = ks.take i ++ (List.replicate n 0 ++ ks.drop (i + n)) := by
    apply List.ext_getElem?
    intro j
    have hl : (ks.take i).length = i := by rw [List.length_take]; have := hr.1; omega
    by_cases h1 : j < i
    · rw [List.getElem?_append_left (by omega), List.getElem?_take_of_lt h1]
    · rw [List.getElem?_append_right (by omega), hl]
      by_cases h2 : j < i + n
      · rw [List.getElem?_append_left (by simp; omega), List.getElem?_replicate, if_pos (by omega), hr.2 j (by omega) h2]
      · rw [List.getElem?_append_right (by simp; omega), List.length_replicate, List.getElem?_drop, show i + n + (j - i - n) = j by omega]
  have e2 : ks' = ks.take i ++ (List.replicate n 1 ++ ks.drop (i + n)) := by
    apply List.ext_getElem?
    intro j
    rw [ht.2 j]
    have hl : (ks.take i).length = i := by rw [List.length_take]; have := hr.1; omega
    by_cases h1 : j < i
    · rw [if_neg (by omega), List.getElem?_append_left (by omega), List.getElem?_take_of_lt h1]
    · rw [List.getElem?_append_right (by omega), hl]
      by_cases h2 : j < i + n
      · rw [if_pos (by omega), List.getElem?_append_left (by simp; omega), List.getElem?_replicate, if_pos (by omega)]
      · rw [if_neg (by omega), List.getElem?_append_right (by simp; omega), List.length_replicate, List.getElem?_drop, show i + n + (j - i - n) = j by omega]
  have c0 : (List.replicate n (0 : UInt8)).countP (· == 0) = n := by rw [List.countP_replicate]; simp
  have c1 : (List.replicate n (1 : UInt8)).countP (· == 0) = 0 := by rw [List.countP_replicate]; simp
  rw [e2]
  conv => rhs; rw [e1]
  rw [List.countP_append, List.countP_append, List.countP_append, List.countP_append, c0, c1]
  omega
/-- what has been found of the first run, with the index k -/
def found (f : Int) (ks : List UInt8) (n k : Nat) (want : Int) : Prop :=
  (want = -1 ∧ ∀ j, (hj : j < (places 0 0 ks).length) → j < k → ¬ run ks (places 0 0 ks)[j] n) ∨
  (∃ j, ∃ hj : j < (places 0 0 ks).length, j < k ∧ want = f + (((places 0 0 ks)[j] : Nat) : Int) ∧ run ks (places 0 0 ks)[j] n ∧ ∀ j', (h' : j' < (places 0 0 ks).length) → j' < j → ¬ run ks (places 0 0 ks)[j'] n)
theorem run_place {ks : List UInt8} {i n : Nat} (h : run ks i n) (h1 : 1 ≤ n) : ∃ j, ∃ hj : j < (places 0 0 ks).length, (places 0 0 ks)[j] = i := by
  have := (places_mem 0 i 0 ks).2 ⟨i, h.2 i (by omega) (by omega), by omega⟩
  obtain ⟨j, hj, e⟩ := List.getElem_of_mem this
  exact ⟨j, hj, e⟩
theorem runs_j0 (f : Int) (n : Int) (ks : List UInt8) (hf : 0 ≤ f ∧ f ≤ 1024) (hk : ks.length ≤ 1024) (hn : -9223372036854775808 ≤ n ∧ n < 9223372036854775808) : armoirelaw06_FreeRuns.j0 f n true ks = some true := by
  unfold armoirelaw06_FreeRuns.j0
  have hw0 : allFrom 0 f ks = (places 0 0 ks).map fun i : Nat => f + (i : Int) := by
    have := allFrom_places 0 f 0 ks
    simpa using this
  have hwl : (allFrom 0 f ks).length ≤ 1024 := by rw [allFrom_len]; exact Nat.le_trans List.countP_le_length hk
  have hpl : (places 0 0 ks).length = (allFrom 0 f ks).length := by rw [hw0, List.length_map]
  rw [Free_eq f ks hf hk, Option.bind_some]
  by_cases h1 : n < 1
  · unfold free_Map_TakeRun.f
    rw [if_pos h1, Option.bind_some, if_pos h1]
    rfl
  have hN : ((n.toNat : Nat) : Int) = n := by omega
  have hat : ∀ j, (hj : j < (places 0 0 ks).length) → (allFrom 0 f ks).getD ((j : Int)).toNat 0 = f + (((places 0 0 ks)[j] : Nat) : Int) := by
    intro j hj
    rw [getD_at (by omega)]
    simp only [hw0, List.getElem_map]
  have hpb : ∀ j, (hj : j < (places 0 0 ks).length) → (places 0 0 ks)[j] < 1024 := by
    intro j hj
    obtain ⟨q, hq, e⟩ := (places_mem 0 _ 0 ks).1 (List.getElem_mem hj)
    have := (List.getElem?_eq_some_iff.1 hq).1
    omega
  have loop : ∀ r, free_Map_TakeRun.f ⟨f, ks⟩ n = some r → (∀ want, found f ks n.toNat (allFrom 0 f ks).length want → armoirelaw06_FreeRuns.l0 n true (allFrom 0 f ks) r 1 want (((allFrom 0 f ks).length : Nat) : Int) = some true) → armoirelaw06_FreeRuns.l0 n true (allFrom 0 f ks) r FUEL (-1) 0 = some true := by
    intro r hr hend
    have hstep : ∀ want, found f ks n.toNat 0 want → armoirelaw06_FreeRuns.l0 n true (allFrom 0 f ks) r FUEL want ((0 : Nat) : Int) = some true := by
      refine idx_ind (P := fun d k => ∀ want, found f ks n.toNat k want → armoirelaw06_FreeRuns.l0 n true (allFrom 0 f ks) r d want (k : Int) = some true) (allFrom 0 f ks).length (by omega) (fun d want hw => ?_) (fun d k hk2 ih want hw => ?_)
      · have := hend want hw
        rw [armoirelaw06_FreeRuns.l0, if_neg (by omega)] at this ⊢
        exact this
      · have hkp : k < (places 0 0 ks).length := by omega
        rw [armoirelaw06_FreeRuns.l0, if_pos (by omega), wi_succ hk2 (by omega)]
        rcases hw with ⟨rfl, hno⟩ | ⟨j, hj, hjk, rfl, hrun, hno⟩
        · rw [if_pos (by decide)]
          have e1 : wi64 (((allFrom 0 f ks).length : Int) - (k : Int)) = ((allFrom 0 f ks).length : Int) - (k : Int) := wi64_id (by omega)
          rw [e1]
          by_cases hfit : n ≤ ((allFrom 0 f ks).length : Int) - (k : Int)
          · have e2 : wi64 (wi64 ((k : Int) + n) - 1) = ((k + n.toNat - 1 : Nat) : Int) := by rw [wi64_id (x := (k : Int) + n) (by omega), wi64_id (by omega)]; omega
            have hl2 : k + n.toNat - 1 < (places 0 0 ks).length := by omega
            have hb1 := hpb k hkp
            have e3 : wi64 (wi64 (f + (((places 0 0 ks)[k] : Nat) : Int) + n) - 1) = f + (((places 0 0 ks)[k] + n.toNat - 1 : Nat) : Int) := by rw [wi64_id (x := f + (((places 0 0 ks)[k] : Nat) : Int) + n) (by omega), wi64_id (by omega)]; omega
            rw [if_pos hfit, e2, if_pos (by omega), if_pos (by omega), hat _ hl2, hat _ hkp, e3]
            have hri := run_iff ks n.toNat k (by omega) hkp
            by_cases heq : (places 0 0 ks)[k + n.toNat - 1] = (places 0 0 ks)[k] + n.toNat - 1
            · rw [if_pos (by rw [heq]), if_pos (by omega)]
              exact ih _ (.inr ⟨k, hkp, by omega, rfl, hri.2 ⟨by omega, heq⟩, fun j' h' hj' => hno j' h' hj'⟩)
            · rw [if_neg (by omega)]
              refine ih _ (.inl ⟨rfl, fun j hj hjk => ?_⟩)
              by_cases hjk2 : j = k
              · subst hjk2
                intro hrun
                obtain ⟨_, h5⟩ := hri.1 hrun
                exact heq h5
              · exact hno j hj (by omega)
          · rw [if_neg hfit]
            refine ih _ (.inl ⟨rfl, fun j hj hjk => ?_⟩)
            by_cases hjk2 : j = k
            · subst hjk2
              intro hrun
              obtain ⟨h5, _⟩ := (run_iff ks n.toNat j (by omega) hkp).1 hrun
              omega
            · exact hno j hj (by omega)
        · rw [if_neg (by omega)]
          exact ih _ (.inr ⟨j, hj, by omega, rfl, hrun, hno⟩)
    exact hstep (-1) (.inl ⟨rfl, fun j hj h => by omega⟩)
  rcases TakeRun_eq f ks n hf hk (by omega) with ⟨p, ks', hr, hmin, ht, he⟩ | ⟨hno, he⟩
  · rw [he, Option.bind_some, if_neg h1]
    refine loop _ he (fun want hw => ?_)
    rw [armoirelaw06_FreeRuns.l0, if_neg (by omega)]
    obtain ⟨j, hj, ej⟩ := run_place hr (by omega)
    rcases hw with ⟨rfl, hn2⟩ | ⟨j2, hj2, _, rfl, hrun, hno⟩
    · exact absurd (by rw [ej]; exact hr) (hn2 j hj (by omega))
    · have ejj : j2 = j := by
        rcases Nat.lt_trichotomy j j2 with h | h | h
        · exact absurd (by rw [ej]; exact hr) (hno j hj h)
        · exact h.symm
        · have hup := List.pairwise_iff_getElem.1 (places_up 0 0 ks) j2 j hj2 hj h
          exact absurd hrun (hmin _ (by omega))
      subst ejj
      have hc := took_split hr ht
      rw [if_neg (by omega), if_pos rfl, if_pos rfl, if_pos (by rw [ej]), Free_eq f ks' hf (by rw [ht.1]; exact hk), Option.bind_some, allFrom_len, allFrom_len, wi64_id (by rw [allFrom_len] at hwl; omega)]
      simp only [Option.some.injEq, decide_eq_true_eq]
      omega
  · rw [he, Option.bind_some, if_neg h1]
    refine loop _ he (fun want hw => ?_)
    rw [armoirelaw06_FreeRuns.l0, if_neg (by omega)]
    rcases hw with ⟨rfl, hn2⟩ | ⟨j2, hj2, _, rfl, hrun, _⟩
    · rw [if_pos (by decide), if_pos rfl, if_pos rfl, Free_eq f ks hf hk, Option.bind_some]
      simp
    · exact absurd hrun (hno _)
theorem runs_l1 (f t : Int) (tk : List Int) (n : Int) (hf : 0 ≤ f ∧ f < t ∧ t ≤ 1024) (ht : tk.length ≤ 9223372036854775807) (hin : ∀ x ∈ tk, f ≤ x ∧ x < t) (hn : -9223372036854775808 ≤ n ∧ n < 9223372036854775808) (ks : List UInt8) (hk : ks.length = (t - f).toNat) :
    armoirelaw06_FreeRuns.l1 f tk n true FUEL ks 0 = some true := by
  have h : ∀ ks : List UInt8, ks.length = (t - f).toNat → armoirelaw06_FreeRuns.l1 f tk n true FUEL ks ((0 : Nat) : Int) = some true := by
    refine idx_ind (P := fun d i => ∀ ks : List UInt8, ks.length = (t - f).toNat → armoirelaw06_FreeRuns.l1 f tk n true d ks (i : Int) = some true) tk.length ht (fun d ks hk => ?_) (fun d i hi ih ks hk => ?_)
    · rw [armoirelaw06_FreeRuns.l1, if_neg (by omega)]
      exact runs_j0 f n ks (by omega) (by omega) hn
    · have hx := hin _ (List.getElem_mem hi)
      have e : wi64 (tk[i] - f) = tk[i] - f := wi64_id (by omega)
      rw [armoirelaw06_FreeRuns.l1, if_pos (by omega), if_pos (by omega), getD_at hi, e, if_pos (by omega), wi_succ hi ht]
      split
      · rfl
      · rw [if_pos (by omega)]; exact ih _ (by simp [hk])
  exact h ks hk
theorem runs_l2 (f t : Int) (tk : List Int) (n : Int) (hf : 0 ≤ f ∧ f < t ∧ t ≤ 1024) (ht : tk.length ≤ 9223372036854775807) (hin : ∀ x ∈ tk, f ≤ x ∧ x < t) (hn : -9223372036854775808 ≤ n ∧ n < 9223372036854775808) (ks : List UInt8) (hk : ks.length = (t - f).toNat) :
    armoirelaw06_FreeRuns.l2 f tk n true FUEL ks 0 = some true := by
  have h : ∀ ks : List UInt8, ks.length = (t - f).toNat → armoirelaw06_FreeRuns.l2 f tk n true FUEL ks ((0 : Nat) : Int) = some true := by
    refine idx_ind (P := fun d i => ∀ ks : List UInt8, ks.length = (t - f).toNat → armoirelaw06_FreeRuns.l2 f tk n true d ks (i : Int) = some true) tk.length ht (fun d ks hk => ?_) (fun d i hi ih ks hk => ?_)
    · rw [armoirelaw06_FreeRuns.l2, if_neg (by omega)]
      exact runs_j0 f n ks (by omega) (by omega) hn
    · have hx := hin _ (List.getElem_mem hi)
      have e : wi64 (tk[i] - f) = tk[i] - f := wi64_id (by omega)
      rw [armoirelaw06_FreeRuns.l2, if_pos (by omega), if_pos (by omega), getD_at hi, e, if_pos (by omega), wi_succ hi ht]
      split
      · rfl
      · rw [if_pos (by omega)]; exact ih _ (by simp [hk])
  exact h ks hk
theorem armoirelaw06_FreeRunsLaw (f t : Int) (tk : List Int) (n : Int) (wf : (Lit.int .i64 f).wf = true) (wt : (Lit.int .i64 t).wf = true) (wk : tk.length * 8 ≤ 140737488351232 ∧ ∀ y ∈ tk, (Lit.int .i64 y).wf = true) (wn : (Lit.int .i64 n).wf = true) : armoirelaw06_FreeRuns.f f t tk n = some true := by
  have hn := rng64 wn
  unfold armoirelaw06_FreeRuns.f
  rw [live_true, Option.bind_some]
  by_cases h1 : f < 0
  · rw [if_pos h1]; rfl
  rw [if_neg h1]
  by_cases h2 : t ≤ f
  · rw [if_pos h2]; rfl
  rw [if_neg h2]
  by_cases h3 : 1024 < t
  · rw [if_pos h3]; rfl
  rw [if_neg h3]
  have e : wi64 (t - f) = t - f := wi64_id (by omega)
  have h : (∀ x ∈ tk.take 0, f ≤ x ∧ x < t) → armoirelaw06_FreeRuns.l3 f t tk n true FUEL ((0 : Nat) : Int) = some true := by
    refine idx_ind (P := fun d i => (∀ x ∈ tk.take i, f ≤ x ∧ x < t) → armoirelaw06_FreeRuns.l3 f t tk n true d (i : Int) = some true) tk.length (by omega) (fun d hin => ?_) (fun d i hi ih hin => ?_)
    · rw [List.take_length] at hin
      rw [armoirelaw06_FreeRuns.l3, if_neg (by omega), armoirelaw06_FreeRuns.j1, if_neg (by decide), e, if_pos (by omega)]
      exact runs_l1 f t tk n (by omega) (by omega) hin hn _ (by simp)
    · rw [armoirelaw06_FreeRuns.l3, if_pos (by omega), if_pos (by omega), getD_at hi, New1_eq, Option.bind_some, wi_succ hi (by omega)]
      by_cases ho : tk[i] < f ∨ t ≤ tk[i]
      · rw [if_pos (by simp [ho]), armoirelaw06_FreeRuns.j2, if_pos (by simp)]; rfl
      · rw [if_neg (by simp [ho])]
        refine ih (fun x hx => ?_)
        rcases (mem_take hi x).1 hx with hx | rfl
        · exact hin x hx
        · omega
  exact h (by simp)
end Go.Proofs.Ytpffemcpfddjbaa
