/- The plain laws of chapter 15 (own text). -/
import Derived.Test.YtpiliblfmpgjeaaAd
import Derived.Test.YtpiliblfmpgjeaaPure
namespace Go.Proofs.Ytpiliblfmpgjeaa
open Go K
set_option linter.unusedVariables false
theorem live_true : armoirelaw15_live.f = some true := by decide +kernel
/-! which touches may be -/
def okT (t : api_Touch) : Bool :=
  (t.kind == 4 && (decide (0 ≤ t.lo ∧ t.lo < t.hi ∧ t.hi ≤ 512) && (t.name == []) && (t.ino != 0))) || (t.kind == 5 && ((t.name != []) && (t.lo == 0) && (t.hi == 0) && (t.ino != 0))) || ((t.kind == 1 || t.kind == 2 || t.kind == 3 || t.kind == 6 || t.kind == 7) && ((t.name == []) && (t.lo == 0) && (t.hi == 0) && (t.ino != 0)))
theorem reads_Check_eq (t : api_Touch) : reads_Check.f t = some (if okT t = true then 0 else 1) := by
  obtain ⟨k, i, n, lo, hi⟩ := t
  unfold reads_Check.f reads_Check.j8 reads_Check.j7 reads_Check.j6 reads_Check.j5 reads_Check.j4 reads_Check.j2 reads_Check.j3 reads_Check.j0 reads_Check.j1 okT
  by_cases h4 : k = 4
  · subst h4
    by_cases h1 : lo < 0 <;> by_cases h2 : hi ≤ lo <;> by_cases h3 : 512 < hi <;> by_cases h5 : i = 0 <;> by_cases h6 : n = [] <;> simp [h1, h2, h3, h5, h6] <;> omega
  by_cases h5 : k = 5
  · subst h5
    by_cases h1 : n = [] <;> by_cases h2 : lo = 0 <;> by_cases h3 : hi = 0 <;> by_cases h5 : i = 0 <;> simp [h1, h2, h3, h5]
  by_cases h : k = 1 ∨ k = 2 ∨ k = 3 ∨ k = 6 ∨ k = 7
  · rcases h with rfl | rfl | rfl | rfl | rfl <;> by_cases h1 : n = [] <;> by_cases h2 : lo = 0 <;> by_cases h3 : hi = 0 <;> by_cases h5 : i = 0 <;> simp [h1, h2, h3, h5]
  · simp only [not_or] at h
    obtain ⟨a, b, c, d, e⟩ := h
    simp [h4, h5, a, b, c, d, e]
theorem ref_Check_eq (t : api_Touch) : armoireref15_Check.f t = some (if okT t = true then 0 else 1) := by
  obtain ⟨k, i, n, lo, hi⟩ := t
  unfold armoireref15_Check.f armoireref15_Check.j11 armoireref15_Check.j10 armoireref15_Check.j9 armoireref15_Check.j0 armoireref15_Check.j8 armoireref15_Check.j7 armoireref15_Check.j4 armoireref15_Check.j5 armoireref15_Check.j6 armoireref15_Check.j3 armoireref15_Check.j1 armoireref15_Check.j2 okT
  by_cases h4 : k = 4
  · subst h4
    by_cases h1 : 0 ≤ lo <;> by_cases h2 : lo < hi <;> by_cases h3 : hi ≤ 512 <;> by_cases h5 : i = 0 <;> by_cases h6 : n = [] <;> simp [h1, h2, h3, h5, h6]
  by_cases h5 : k = 5
  · subst h5
    by_cases h1 : n = [] <;> by_cases h2 : lo = 0 <;> by_cases h3 : hi = 0 <;> by_cases h5 : i = 0 <;> simp [h1, h2, h3, h5]
  by_cases h : k = 1 ∨ k = 2 ∨ k = 3 ∨ k = 6 ∨ k = 7
  · rcases h with rfl | rfl | rfl | rfl | rfl <;> by_cases h1 : n = [] <;> by_cases h2 : lo = 0 <;> by_cases h3 : hi = 0 <;> by_cases h5 : i = 0 <;> simp [h1, h2, h3, h5]
  · simp only [not_or] at h
    obtain ⟨a, b, c, d, e⟩ := h
    simp [h4, h5, a, b, c, d, e]
theorem okT_kind {t : api_Touch} (h : okT t = true) : t.kind = 1 ∨ t.kind = 2 ∨ t.kind = 3 ∨ t.kind = 4 ∨ t.kind = 5 ∨ t.kind = 6 ∨ t.kind = 7 := by
  obtain ⟨k, i, n, lo, hi⟩ := t
  simp only [okT, Bool.or_eq_true, Bool.and_eq_true, beq_iff_eq] at h ⊢
  omega
/-- which meet which, read first -/
def meet (r w : api_Touch) : Bool :=
  okT r && okT w && (r.ino == w.ino) && (if w.kind = 7 then true else if r.kind = 6 then (w.kind == 5) else if r.kind ≠ w.kind ∨ r.kind = 7 then false else if r.kind = 4 then decide (r.lo < w.hi ∧ w.lo < r.hi) else if r.kind = 5 then (r.name == w.name) else true)
theorem reads_Meet_eq (r w : api_Touch) : reads_Meet.f r w = some (meet r w) := by
  unfold reads_Meet.f
  rw [reads_Check_eq, reads_Check_eq]
  unfold meet
  by_cases h1 : okT r = true
  · by_cases h2 : okT w = true
    · have k1 := okT_kind h1
      have k2 := okT_kind h2
      simp only [h1, h2, if_true, Option.bind_some]
      unfold reads_Meet.j0 reads_Meet.j1
      by_cases hi : r.ino = w.ino
      · simp only [hi, ne_eq, not_true_eq_false, decide_false, Bool.false_eq_true, if_false, beq_self_eq_true, Bool.and_self, Bool.true_and]
        unfold reads_Meet.j9 reads_Meet.j2 reads_Meet.j3 reads_Meet.j4 reads_Meet.j5 reads_Meet.j6 reads_Meet.j7 reads_Meet.j8
        generalize r.kind = rk at k1 ⊢
        generalize w.kind = wk at k2 ⊢
        generalize r.lo = rlo
        generalize r.hi = rhi
        generalize w.lo = wlo
        generalize w.hi = whi
        by_cases c1 : rlo < whi <;> by_cases c2 : wlo < rhi <;> by_cases c3 : r.name = w.name <;>
          rcases k1 with rfl | rfl | rfl | rfl | rfl | rfl | rfl <;> rcases k2 with rfl | rfl | rfl | rfl | rfl | rfl | rfl <;> simp [c1, c2, c3]
      · simp [hi]
    · have h2' : okT w = false := by simpa using h2
      simp [h1, h2', reads_Meet.j0, reads_Meet.j1]
  · have h1' : okT r = false := by simpa using h1
    simp [h1', reads_Meet.j0, reads_Meet.j1]
theorem ref_Meet_eq (r w : api_Touch) : armoireref15_Meet.f r w = some (meet r w) := by
  unfold armoireref15_Meet.f
  rw [ref_Check_eq, ref_Check_eq]
  unfold meet
  by_cases h1 : okT r = true
  · by_cases h2 : okT w = true
    · have k1 := okT_kind h1
      have k2 := okT_kind h2
      simp only [h1, h2, if_true, Option.bind_some]
      unfold armoireref15_Meet.j0 armoireref15_Meet.j1
      by_cases hi : r.ino = w.ino
      · simp only [hi, ne_eq, not_true_eq_false, decide_false, Bool.false_eq_true, if_false, beq_self_eq_true, Bool.and_self, Bool.true_and]
        unfold armoireref15_Meet.j2 armoireref15_Meet.j3
        generalize r.kind = rk at k1 ⊢
        generalize w.kind = wk at k2 ⊢
        generalize r.lo = rlo
        generalize r.hi = rhi
        generalize w.lo = wlo
        generalize w.hi = whi
        by_cases c1 : rlo < whi <;> by_cases c2 : wlo < rhi <;> by_cases c3 : r.name = w.name <;>
          rcases k1 with rfl | rfl | rfl | rfl | rfl | rfl | rfl <;> rcases k2 with rfl | rfl | rfl | rfl | rfl | rfl | rfl <;> simp [c1, c2, c3]
      · simp [hi]
    · have h2' : okT w = false := by simpa using h2
      simp [h1, h2', armoireref15_Meet.j0, armoireref15_Meet.j1]
  · have h1' : okT r = false := by simpa using h1
    simp [h1', armoireref15_Meet.j0, armoireref15_Meet.j1]
theorem armoirelaw15_ReadsMeetLaw {P1 P2 : Prop} (a b : api_Touch) (w0 : P1) (w1 : P2) : armoirelaw15_ReadsMeet.f a b = some true := by
  unfold armoirelaw15_ReadsMeet.f
  simp [live_true, reads_Check_eq, ref_Check_eq, reads_Meet_eq, ref_Meet_eq, armoirelaw15_ReadsMeet.j0, armoirelaw15_ReadsMeet.j1, armoirelaw15_ReadsMeet.j2]
theorem meet_self {a : api_Touch} (h : okT a = true) (h6 : a.kind ≠ 6) : meet a a = true := by
  have k1 := okT_kind h
  unfold meet
  rw [h]
  simp only [beq_self_eq_true, Bool.and_self, Bool.true_and]
  by_cases h7 : a.kind = 7
  · simp [h7]
  by_cases h4 : a.kind = 4
  · obtain ⟨k, i, n, lo, hi⟩ := a
    simp only at h4 h6 h7
    subst h4
    simp [okT] at h
    simp
    omega
  simp [h6, h7, h4]
theorem armoirelaw15_ReadsApartLaw {P1 P2 : Prop} (a b : api_Touch) (w0 : P1) (w1 : P2) : armoirelaw15_ReadsApart.f a b = some true := by
  unfold armoirelaw15_ReadsApart.f
  rw [live_true, reads_Check_eq, reads_Check_eq]
  by_cases h1 : okT a = true
  · by_cases h2 : okT b = true
    · simp only [h1, h2, if_true, Option.bind_some]
      unfold armoirelaw15_ReadsApart.j0
      by_cases hi : a.ino = b.ino
      · by_cases he : a = b
        · subst he
          by_cases h6 : a.kind = 6
          · simp [h6, armoirelaw15_ReadsApart.j3, armoirelaw15_ReadsApart.j5, armoirelaw15_ReadsApart.j6]
          · simp [h6, armoirelaw15_ReadsApart.j3, armoirelaw15_ReadsApart.j4, reads_Meet_eq, meet_self h1 h6]
        · by_cases h7 : b.kind = 7
          · have : meet a b = true := by unfold meet; simp [h1, h2, hi, h7]
            simp [hi, he, h7, this, reads_Meet_eq, armoirelaw15_ReadsApart.j3, armoirelaw15_ReadsApart.j5, armoirelaw15_ReadsApart.j6]
          · simp [hi, he, h7, armoirelaw15_ReadsApart.j3, armoirelaw15_ReadsApart.j5, armoirelaw15_ReadsApart.j6]
      · have : meet a b = false := by unfold meet; simp [hi]
        simp [hi, this, reads_Meet_eq, armoirelaw15_ReadsApart.j2]
    · have h2' : okT b = false := by simpa using h2
      have : meet a b = false := by unfold meet; simp [h2']
      simp [h1, h2', this, reads_Meet_eq, armoirelaw15_ReadsApart.j0, armoirelaw15_ReadsApart.j1]
  · have h1' : okT a = false := by simpa using h1
    have : meet a b = false := by unfold meet; simp [h1']
    simp [h1', this, reads_Meet_eq, armoirelaw15_ReadsApart.j0, armoirelaw15_ReadsApart.j1]
end Go.Proofs.Ytpiliblfmpgjeaa
