/- The judgement 'G': regions whose order is drawn, by phases: what does not change the world may come at any time (own text). -/
import Derived.Test.YtpffemcpfddjbaaMem9
namespace Go.Proofs.Ytpffemcpfddjbaa.K
open Go
inductive Src where
  | op (j : Nat)
  | base (d : Nat)
structure Reg where
  ds : List (List Nat)
  dsts : List (Option Nat)
  B : List (Nat × Value)
namespace Reg
variable (R : Reg)
def mkA (V : List (Option Value)) : List Src → List (Nat × Value)
  | [] => []
  | .op j :: r => match R.dsts.getD j none, V.getD j none with
    | some d, some v => (d, v) :: mkA V r
    | _, _ => mkA V r
  | .base d :: r => match look R.B d with
    | some v => (d, v) :: mkA V r
    | none => mkA V r
def okSrc (i : Nat) : Src → Bool
  | .op j => (R.ds.getD i []).contains j
  | .base d => (List.range R.dsts.length).all fun j => !(R.dsts.getD j none == some d) || j == i || (R.ds.getD j []).contains i
/-- no two write one slot -/
def apart : Bool := (List.range R.dsts.length).all fun i => (List.range R.dsts.length).all fun j => i == j || !(R.dsts.getD i none).isSome || !(R.dsts.getD i none == R.dsts.getD j none)
structure Phi (V : List (Option Value)) (done blk : List Nat) (L : List Bool) (A : List (Nat × Value)) : Prop where
  known : ∀ i d, L.getD i false = true → R.dsts.getD i none = some d → ∃ v, V.getD i none = some v ∧ look A d = some v
  base : ∀ d v, look R.B d = some v → (∀ i, L.getD i false = true → R.dsts.getD i none ≠ some d) → look A d = some v
  closed : ∀ j, L.getD j false = true → ∀ i ∈ R.ds.getD j [], L.getD i false = true
  done : ∀ j ∈ done, L.getD j false = true
  blk : ∀ j ∈ blk, L.getD j false = false
def Sub (A B : List (Nat × Value)) : Prop := ∀ d v, look A d = some v → look B d = some v
end Reg
open Reg
theorem look_app (X A : List (Nat × Value)) (d : Nat) : look (X ++ A) d = (look X d).or (look A d) := by
  induction X with
  | nil => simp [look]
  | cons p r ih =>
    obtain ⟨i, v⟩ := p
    simp only [List.cons_append, look]
    split
    · rfl
    · exact ih
theorem look_sub {X A : List (Nat × Value)} (h : Sub X A) (d : Nat) : look (X ++ A) d = look A d := by
  rw [look_app]
  cases hx : look X d with
  | none => rfl
  | some v => rw [h d v hx]; rfl
section
variable {R : Reg} {V : List (Option Value)} {done blk : List Nat} {L : List Bool} {A : List (Nat × Value)}
theorem Reg.Phi.sub (h : R.Phi V done blk L A) {i : Nat} (hi : L.getD i false = false) (hd : ∀ j ∈ R.ds.getD i [], L.getD j false = true) : ∀ {src : List Src}, src.all (R.okSrc i) = true → Sub (R.mkA V src) A
  | [], _ => fun d v hv => by simp [Reg.mkA, look] at hv
  | .op j :: r, hs => by
    simp only [List.all_cons, Bool.and_eq_true] at hs
    have ih := Reg.Phi.sub h hi hd hs.2
    have hj : j ∈ R.ds.getD i [] := by simpa [okSrc] using hs.1
    intro d v hv
    unfold Reg.mkA at hv
    split at hv
    · rename_i d' v' h1 h2
      simp only [look] at hv
      split at hv
      · rename_i e; subst e
        injection hv with hv; subst hv
        obtain ⟨u, hu, hl⟩ := h.known j _ (hd j hj) h1
        rw [h2] at hu; injection hu with hu; subst hu
        exact hl
      · exact ih d v hv
    · exact ih d v hv
  | .base d0 :: r, hs => by
    simp only [List.all_cons, Bool.and_eq_true] at hs
    have ih := Reg.Phi.sub h hi hd hs.2
    intro d v hv
    unfold Reg.mkA at hv
    split at hv
    · rename_i v' h1
      simp only [look] at hv
      split at hv
      · rename_i e; subst e
        injection hv with hv; subst hv
        refine h.base _ _ h1 (fun j hj hdj => ?_)
        have hlt : j < R.dsts.length := by
          rcases Nat.lt_or_ge j R.dsts.length with h2 | h2
          · exact h2
          · rw [List.getD_eq_getElem?_getD, List.getElem?_eq_none h2] at hdj; cases hdj
        have := List.all_eq_true.1 hs.1 j (List.mem_range.2 hlt)
        simp only [hdj, beq_self_eq_true, Bool.not_true, Bool.false_or, Bool.or_eq_true, beq_iff_eq] at this
        rcases this with e | e
        · subst e; rw [hi] at hj; cases hj
        · have := h.closed j hj i (by simpa using e)
          rw [hi] at this; cases this
      · exact ih d v hv
    · exact ih d v hv
/-- what was known stays known -/
def Ext : List (Option Value) → List (Option Value) → Prop
  | [], _ => True
  | none :: r, _ :: s => Ext r s
  | some v :: r, w :: s => w = some v ∧ Ext r s
  | _ :: _, [] => False
theorem Ext.get : ∀ {V V' : List (Option Value)} {i : Nat} {v : Value}, Ext V V' → V.getD i none = some v → V'.getD i none = some v
  | none :: r, _ :: s, 0, v, _, h => by simp at h
  | none :: r, _ :: s, i + 1, v, e, h => by simpa using Ext.get (V := r) (V' := s) e (by simpa using h)
  | some u :: r, w :: s, 0, v, e, h => by simp at h; subst h; simpa using e.1
  | some u :: r, w :: s, i + 1, v, e, h => by simpa using Ext.get (V := r) (V' := s) e.2 (by simpa using h)
  | none :: r, [], _, _, e, _ => e.elim
  | some _ :: r, [], _, _, e, _ => e.elim
  | [], _, _, _, _, h => by simp at h
theorem Ext.refl : ∀ V : List (Option Value), Ext V V
  | [] => trivial
  | none :: r => Ext.refl r
  | some _ :: r => ⟨rfl, Ext.refl r⟩
theorem getD_set {L : List Bool} {i j : Nat} (h : i < L.length) : (L.set i true).getD j false = (if j = i then true else L.getD j false) := by
  simp only [List.getD_eq_getElem?_getD, List.getElem?_set]
  by_cases e : i = j
  · subst e; simp [h]
  · have e' : ¬ j = i := fun h => e h.symm
    simp [e, e']
/-- one more is done -/
theorem Reg.Phi.step (h : R.Phi V done blk L A) (hap : R.apart = true) {i : Nat} (hil : i < L.length) (hd : ∀ j ∈ R.ds.getD i [], L.getD j false = true) {V' : List (Option Value)} (he : Ext V V') {done' blk' : List Nat}
    (hdone : ∀ j ∈ done', j ∈ done ∨ j = i ∨ j ∈ R.ds.getD i []) (hblk : ∀ j ∈ blk', j ∈ blk ∧ j ≠ i) {A' : List (Nat × Value)} (ho : ∀ d, R.dsts.getD i none ≠ some d → look A' d = look A d) (hs : ∀ d, R.dsts.getD i none = some d → ∃ v, V'.getD i none = some v ∧ look A' d = some v) :
    R.Phi V' done' blk' (L.set i true) A' := by
  refine ⟨fun j d hj hdj => ?_, fun d v hv hno => ?_, fun j hj k hk => ?_, fun j hj => ?_, fun j hj => ?_⟩
  · rw [getD_set hil] at hj
    by_cases e : j = i
    · subst e; exact hs d hdj
    · rw [if_neg e] at hj
      obtain ⟨v, h1, h2⟩ := h.known j d hj hdj
      refine ⟨v, he.get h1, ?_⟩
      rw [ho d ?_, h2]
      intro hdi
      have hlt : ∀ m, R.dsts.getD m none = some d → m < R.dsts.length := by
        intro m hm
        rcases Nat.lt_or_ge m R.dsts.length with h2 | h2
        · exact h2
        · rw [List.getD_eq_getElem?_getD, List.getElem?_eq_none h2] at hm; cases hm
      have := List.all_eq_true.1 (List.all_eq_true.1 hap i (List.mem_range.2 (hlt i hdi))) j (List.mem_range.2 (hlt j hdj))
      rw [hdi, hdj] at this
      simp at this
      exact e this.symm
  · rw [ho d (hno i (by rw [getD_set hil, if_pos rfl]))]
    refine h.base d v hv (fun j hj => hno j ?_)
    rw [getD_set hil]; split
    · rfl
    · exact hj
  · rw [getD_set hil] at hj ⊢
    split
    · rfl
    · by_cases e : j = i
      · subst e; exact hd k hk
      · rw [if_neg e] at hj; exact h.closed j hj k hk
  · rw [getD_set hil]
    rcases hdone j hj with h1 | h1 | h1
    · split
      · rfl
      · exact h.done j h1
    · rw [if_pos h1]
    · split
      · rfl
      · exact hd j h1
  · obtain ⟨h1, h2⟩ := hblk j hj
    rw [getD_set hil, if_neg h2]; exact h.blk j h1
end
section
variable {C : Cx} {H : PH} {Ls : List Res} {k : List Item} {ops : Array Oper}
/-- an operation that changes no world -/
structure Light (C : Cx) (H : PH) (Ls : List Res) (k : List Item) (ops : Array Oper) (R : Reg) (V : List (Option Value)) (i : Nat) (src : List Src) (d : Nat) (v : Value) (Ai : List (Nat × Value)) : Prop where
  dst : R.dsts.getD i none = some d
  val : V.getD i none = some v
  ok : src.all (R.okSrc i) = true
  eq : R.mkA V src = Ai
  run : ∀ X rest, G C H ((d, v) :: (Ai ++ X)) Ls (.inRegion ops rest :: k) → G C H (Ai ++ X) Ls (.inRegion ops (i :: rest) :: k)
/-- an operation that does -/
structure Heavy (C : Cx) (H : PH) (Ls : List Res) (k : List Item) (ops : Array Oper) (R : Reg) (V : List (Option Value)) (done blk : List Nat) (i : Nat) (src : List Src) (Ai : List (Nat × Value)) : Prop where
  ok : src.all (R.okSrc i) = true
  eq : R.mkA V src = Ai
  run : ∀ X rest L m, L.length = R.ds.length → R.Phi V done blk L X → i < L.length → (∀ j ∈ R.ds.getD i [], L.getD j false = true) → Sub Ai X → left (L.set i true) = m → Ord R.ds m (L.set i true) rest → G C H (Ai ++ X) Ls (.inRegion ops (i :: rest) :: k)
def Lights (C : Cx) (H : PH) (Ls : List Res) (k : List Item) (ops : Array Oper) (R : Reg) (V : List (Option Value)) : List Nat → Prop
  | [] => True
  | i :: r => (∃ src d v Ai, Light C H Ls k ops R V i src d v Ai) ∧ Lights C H Ls k ops R V r
def Heavies (C : Cx) (H : PH) (Ls : List Res) (k : List Item) (ops : Array Oper) (R : Reg) (V : List (Option Value)) (done blk : List Nat) : List Nat → Prop
  | [] => True
  | i :: r => (∃ src Ai, Heavy C H Ls k ops R V done blk i src Ai) ∧ Heavies C H Ls k ops R V done blk r
theorem Lights.get {R : Reg} {V : List (Option Value)} : ∀ {l : List Nat} {i : Nat}, Lights C H Ls k ops R V l → i ∈ l → ∃ src d v Ai, Light C H Ls k ops R V i src d v Ai
  | a :: r, i, ⟨h, hr⟩, hi => by
    rcases List.mem_cons.1 hi with rfl | hi
    · exact h
    · exact Lights.get hr hi
theorem Heavies.get {R : Reg} {V : List (Option Value)} {done blk : List Nat} : ∀ {l : List Nat} {i : Nat}, Heavies C H Ls k ops R V done blk l → i ∈ l → ∃ src Ai, Heavy C H Ls k ops R V done blk i src Ai
  | a :: r, i, ⟨h, hr⟩, hi => by
    rcases List.mem_cons.1 hi with rfl | hi
    · exact h
    · exact Heavies.get hr hi
theorem G.lessSub {A B : List (Nat × Value)} (h : Sub B A) (g : G C H B Ls k) : G C H A Ls k := fun a w ha hs => g a w (ha.less h) hs
theorem G.shadow {A : List (Nat × Value)} {d : Nat} {u v : Value} (g : G C H ((d, v) :: A) Ls k) : G C H ((d, v) :: (d, u) :: A) Ls k :=
  G.lessSub (fun e x h => by
    simp only [look] at h ⊢
    split
    · rename_i e1; rw [if_pos e1] at h; exact h
    · rename_i e1; rw [if_neg e1] at h; exact h) g
theorem G.phase (R : Reg) (V : List (Option Value)) (lights heavies done blk : List Nat) (hap : R.apart = true)
    (hcov : (List.range R.ds.length).all (fun i => lights.contains i || heavies.contains i || done.contains i || (R.ds.getD i []).any blk.contains) = true)
    (hlb : lights.all (fun i => !blk.contains i) = true)
    (hL : Lights C H Ls k ops R V lights) (hH : Heavies C H Ls k ops R V done blk heavies)
    (hfin : ∀ A L, L.length = R.ds.length → R.Phi V done blk L A → left L = 0 → G C H A Ls (.inRegion ops [] :: k)) :
    ∀ (m : Nat) (L : List Bool) (A : List (Nat × Value)) (l : List Nat), L.length = R.ds.length → R.Phi V done blk L A → left L = m → Ord R.ds m L l → G C H A Ls (.inRegion ops l :: k)
  | 0, L, A, l, hlen, hp, hm, ho => by
    have : l = [] := ho
    subst this
    exact hfin A L hlen hp hm
  | m + 1, L, A, l, hlen, hp, hm, ho => by
    obtain ⟨i, rest, rfl, hi, ho⟩ := ho
    simp only [readyL, List.mem_filter, List.mem_range, Bool.and_eq_true, Bool.not_eq_true'] at hi
    obtain ⟨hlt, hif, hdep⟩ := hi
    have hil : i < L.length := by omega
    have hif' : L.getD i false = false := by
      simp only [List.getD_eq_getElem?_getD, List.getElem?_eq_getElem hil, Option.getD_some] at hif ⊢
      exact hif
    have hdep' : ∀ j ∈ R.ds.getD i [], L.getD j false = true := fun j hj => List.all_eq_true.1 hdep j hj
    have hleft : left (L.set i true) = m := by
      have := left_set (L := L) (i := i) (by
        simp only [List.getD_eq_getElem?_getD, List.getElem?_eq_getElem hil, Option.getD_some] at hif
        rw [List.getElem?_eq_getElem hil, hif])
      omega
    have hc := List.all_eq_true.1 hcov i (List.mem_range.2 hlt)
    simp only [Bool.or_eq_true] at hc
    rcases hc with ((hc | hc) | hc) | hc
    · have hmem : i ∈ lights := by simpa using hc
      obtain ⟨src, d, v, Ai, s⟩ := hL.get hmem
      have hsub : Sub Ai A := by rw [← s.eq]; exact hp.sub hif' hdep' s.ok
      refine G.lessSub (B := Ai ++ A) (fun e x hx => by rwa [look_sub hsub] at hx) (s.run A rest ?_)
      refine G.phase R V lights heavies done blk hap hcov hlb hL hH hfin m (L.set i true) _ rest (by simpa using hlen) ?_ hleft ho
      refine hp.step hap hil hdep' (Ext.refl V) (fun j hj => .inl hj) (fun j hj => ⟨hj, fun e => ?_⟩) (fun e he => ?_) (fun e he => ?_)
      · subst e
        have := List.all_eq_true.1 hlb j hmem
        simp at this
        exact this hj
      · have hne : e ≠ d := fun h => he (by rw [h]; exact s.dst)
        simp only [look, if_neg hne]
        exact look_sub hsub e
      · rw [s.dst] at he
        injection he with he
        exact ⟨v, s.val, by simp [look, he]⟩
    · have hmem : i ∈ heavies := by simpa using hc
      obtain ⟨src, Ai, s⟩ := hH.get hmem
      have hsub : Sub Ai A := by rw [← s.eq]; exact hp.sub hif' hdep' s.ok
      exact G.lessSub (B := Ai ++ A) (fun e x hx => by rwa [look_sub hsub] at hx) (s.run A rest L m hlen hp hil hdep' hsub hleft ho)
    · have := hp.done i (by simpa using hc)
      rw [hif'] at this; cases this
    · obtain ⟨j, hj, hb⟩ := List.any_eq_true.1 hc
      have h1 := hdep' j hj
      have h2 := hp.blk j (by simpa using hb)
      rw [h1] at h2; cases h2
end
section
variable {R : Reg} {V : List (Option Value)} {done blk : List Nat} {L : List Bool} {A : List (Nat × Value)}
theorem Reg.Phi.stepS {X Ai : List (Nat × Value)} {i d : Nat} {v : Value} {V' : List (Option Value)} {done' blk' : List Nat} (h : R.Phi V done blk L X) (hap : R.apart = true) (hil : i < L.length) (hd : ∀ j ∈ R.ds.getD i [], L.getD j false = true) (hs : Sub Ai X) (he : Ext V V')
    (hdone : done'.all (fun j => done.contains j || (j == i || (R.ds.getD i []).contains j)) = true) (hblk : blk'.all (fun j => blk.contains j && !(j == i)) = true) (hdst : R.dsts.getD i none = some d) (hv : V'.getD i none = some v) : R.Phi V' done' blk' (L.set i true) ((d, v) :: (Ai ++ X)) := by
  refine h.step hap hil hd he (fun j hj => ?_) (fun j hj => ?_) (fun e hne => ?_) (fun e he => ?_)
  · have := List.all_eq_true.1 hdone j hj
    simpa using this
  · have := List.all_eq_true.1 hblk j hj
    simpa using this
  · have hn : e ≠ d := fun h => hne (by rw [h]; exact hdst)
    simp only [look, if_neg hn]
    exact look_sub hs e
  · rw [hdst] at he
    injection he with he
    exact ⟨v, hv, by simp [look, he]⟩
theorem Reg.Phi.stepN {X Ai : List (Nat × Value)} {i : Nat} {V' : List (Option Value)} {done' blk' : List Nat} (h : R.Phi V done blk L X) (hap : R.apart = true) (hil : i < L.length) (hd : ∀ j ∈ R.ds.getD i [], L.getD j false = true) (hs : Sub Ai X) (he : Ext V V')
    (hdone : done'.all (fun j => done.contains j || (j == i || (R.ds.getD i []).contains j)) = true) (hblk : blk'.all (fun j => blk.contains j && !(j == i)) = true) (hdst : R.dsts.getD i none = none) : R.Phi V' done' blk' (L.set i true) (Ai ++ X) := by
  refine h.step hap hil hd he (fun j hj => ?_) (fun j hj => ?_) (fun e hne => look_sub hs e) (fun e he => ?_)
  · have := List.all_eq_true.1 hdone j hj
    simpa using this
  · have := List.all_eq_true.1 hblk j hj
    simpa using this
  · rw [hdst] at he; cases he
theorem left_zero : ∀ {L : List Bool}, left L = 0 → ∀ j, j < L.length → L.getD j false = true
  | b :: r, h, 0, _ => by cases b <;> simp_all [left]
  | b :: r, h, j + 1, hj => by
    have : left r = 0 := by simp only [left] at h; omega
    simpa using left_zero this j (by simpa using hj)
def Reg.okFin (R : Reg) : Src → Bool
  | .op j => Nat.blt j R.ds.length
  | .base d => R.dsts.all fun x => !(x == some d)
theorem Reg.Phi.fin (h : R.Phi V done blk L A) (hlen : L.length = R.ds.length) (h0 : left L = 0) : ∀ {src : List Src}, src.all R.okFin = true → Sub (R.mkA V src) A
  | [], _ => fun d v hv => by simp [Reg.mkA, look] at hv
  | .op j :: r, hs => by
    simp only [List.all_cons, Bool.and_eq_true] at hs
    have ih := Reg.Phi.fin h hlen h0 hs.2
    have hj : j < R.ds.length := by simpa [okFin, Nat.blt_eq] using hs.1
    intro d v hv
    unfold Reg.mkA at hv
    split at hv
    · rename_i d' v' h1 h2
      simp only [look] at hv
      split at hv
      · rename_i e; subst e
        injection hv with hv; subst hv
        obtain ⟨u, hu, hl⟩ := h.known j _ (left_zero h0 j (by omega)) h1
        rw [h2] at hu; injection hu with hu; subst hu
        exact hl
      · exact ih d v hv
    · exact ih d v hv
  | .base d0 :: r, hs => by
    simp only [List.all_cons, Bool.and_eq_true] at hs
    have ih := Reg.Phi.fin h hlen h0 hs.2
    intro d v hv
    unfold Reg.mkA at hv
    split at hv
    · rename_i v' h1
      simp only [look] at hv
      split at hv
      · rename_i e; subst e
        injection hv with hv; subst hv
        refine h.base _ _ h1 (fun j hj hdj => ?_)
        have hm : some d ∈ R.dsts := by
          rw [List.getD_eq_getElem?_getD] at hdj
          cases hq : R.dsts[j]? with
          | none => rw [hq] at hdj; cases hdj
          | some x => rw [hq] at hdj; simp at hdj; subst hdj; exact List.mem_of_getElem? hq
        have := List.all_eq_true.1 hs.1 _ hm
        simp at this
      · exact ih d v hv
    · exact ih d v hv
theorem Reg.Phi.notYet (h : R.Phi V done blk L A) (hlen : L.length = R.ds.length) (h0 : left L = 0) (j : Nat) (hj : blk.contains j = true) (hlt : Nat.blt j R.ds.length = true) : False := by
  have h1 := h.blk j (by simpa using hj)
  have h2 := left_zero h0 j (by rw [hlen]; simpa [Nat.blt_eq] using hlt)
  rw [h1] at h2; cases h2
theorem Reg.Phi.init (n : Nat) (hB : subs A R.B) : R.Phi V [] blk (List.replicate n false) A := by
  have hf : ∀ i, (List.replicate n false).getD i false = false := by
    intro i
    simp only [List.getD_eq_getElem?_getD, List.getElem?_replicate]
    split <;> rfl
  refine ⟨fun i d h => ?_, fun d v h _ => subs_look hB d v h, fun j h => ?_, (fun j h => by cases h), fun j _ => hf j⟩
  · rw [hf] at h; cases h
  · rw [hf] at h; cases h
end
end Go.Proofs.Ytpffemcpfddjbaa.K
