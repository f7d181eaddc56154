/- The judgement 'G': regions whose order is drawn (own text). -/
import Derived.Test.YtpffemcpfddjbaaMem7
namespace Go.Proofs.Ytpffemcpfddjbaa.K
open Go
def depsOf (m : Region.Mode) (o : Oper) : List Nat := (o.after.toList.filter (Region.binds m)).map (·.on)
def readyL (ds : List (List Nat)) (L : List Bool) : List Nat := (List.range ds.length).filter fun i => !L.getD i true && (ds.getD i []).all fun j => L.getD j false
/-- an order that may be drawn: what stands in L is done -/
def Ord (ds : List (List Nat)) : Nat → List Bool → List Nat → Prop
  | 0, _, l => l = []
  | k + 1, L, l => ∃ i rest, l = i :: rest ∧ i ∈ readyL ds L ∧ Ord ds k (L.set i true) rest
def AllOf (p : Nat → Prop) : List Nat → Prop
  | [] => True
  | a :: r => p a ∧ AllOf p r
theorem AllOf.mem {p : Nat → Prop} : ∀ {l : List Nat} {i : Nat}, AllOf p l → i ∈ l → p i
  | a :: r, i, ⟨h, hr⟩, hi => by
    rcases List.mem_cons.1 hi with rfl | hi
    · exact h
    · exact AllOf.mem hr hi
theorem Ord.fork {ds : List (List Nat)} {k : Nat} {L : List Bool} {l rs : List Nat} {Q : List Nat → Prop} (h : Ord ds (k + 1) L l) (hr : readyL ds L = rs) (all : AllOf (fun i => ∀ rest, Ord ds k (L.set i true) rest → Q (i :: rest)) rs) : Q l := by
  obtain ⟨i, rest, rfl, hi, ho⟩ := h
  rw [hr] at hi
  exact all.mem hi rest ho
theorem Ord.nil {ds : List (List Nat)} {L : List Bool} {l : List Nat} {Q : List Nat → Prop} (h : Ord ds 0 L l) (g : Q []) : Q l := by
  have : l = [] := h
  rw [this]; exact g
/-- how many are not done -/
def left : List Bool → Nat
  | [] => 0
  | b :: r => (if b then 0 else 1) + left r
theorem left_set : ∀ {L : List Bool} {i : Nat}, L[i]? = some false → left L = left (L.set i true) + 1
  | b :: r, 0, h => by simp at h; subst h; simp [left]; omega
  | b :: r, i + 1, h => by
    have := left_set (L := r) (i := i) (by simpa using h)
    simp only [List.set_cons_succ, left, this]
    omega
theorem left_some : ∀ {L : List Bool}, 0 < left L → ∃ i : Nat, L[i]? = some false
  | b :: r, h => by
    cases b with
    | false => exact ⟨0, rfl⟩
    | true =>
      obtain ⟨i, hi⟩ := left_some (L := r) (by simp [left] at h; exact h)
      exact ⟨i + 1, by simpa using hi⟩
/-- of what is not done something is ready, where the order is one: ranks tell -/
theorem ready_some {ds : List (List Nat)} {rk : List Nat} (hrk : (List.range ds.length).all (fun i => (ds.getD i []).all fun j => Nat.blt j ds.length && Nat.blt (rk.getD j 0) (rk.getD i 0)) = true) {L : List Bool} (hL : L.length = ds.length) :
    ∀ (n i : Nat), rk.getD i 0 ≤ n → L[i]? = some false → ∃ j, j ∈ readyL ds L := by
  intro n
  induction n with
  | zero =>
    intro i hn hi
    have hil : i < L.length := (List.getElem?_eq_some_iff.1 hi).1
    refine ⟨i, ?_⟩
    simp only [readyL, List.mem_filter, List.mem_range, Bool.and_eq_true, Bool.not_eq_true']
    refine ⟨by omega, by simp [List.getD_eq_getElem?_getD, hi], ?_⟩
    have := List.all_eq_true.1 hrk i (List.mem_range.2 (by omega))
    rw [List.all_eq_true] at this ⊢
    intro j hj
    have h2 := this j hj
    simp only [Bool.and_eq_true, Nat.blt_eq] at h2
    omega
  | succ n ih =>
    intro i hn hi
    have hil : i < L.length := (List.getElem?_eq_some_iff.1 hi).1
    by_cases hall : (ds.getD i []).all (fun j => L.getD j false) = true
    · refine ⟨i, ?_⟩
      simp only [readyL, List.mem_filter, List.mem_range, Bool.and_eq_true, Bool.not_eq_true']
      exact ⟨by omega, by simp [List.getD_eq_getElem?_getD, hi], hall⟩
    · have hall' : (ds.getD i []).all (fun j => L.getD j false) = false := by simpa using hall
      rw [List.all_eq_false] at hall'
      obtain ⟨j, hj, hjf⟩ := hall'
      have := List.all_eq_true.1 hrk i (List.mem_range.2 (by omega))
      rw [List.all_eq_true] at this
      have h2 := this j hj
      simp only [Bool.and_eq_true, Nat.blt_eq] at h2
      refine ih j (by omega) ?_
      have hjl : j < L.length := by omega
      rw [List.getElem?_eq_getElem hjl]
      simp [List.getD_eq_getElem?_getD, List.getElem?_eq_getElem hjl] at hjf
      rw [hjf]
theorem binds_any (m : Region.Mode) (e : Edge) (h : Region.binds .any e = true) : Region.binds m e = true := by
  unfold Region.binds at h ⊢
  split at h <;> simp_all
theorem ready_eq (m : Region.Mode) (ops : Array Oper) (lst : Array Bool) :
    ((List.range ops.size).filter fun i => !lst.getD i true && ((ops[i]?).map (·.after.all fun e => !Region.binds m e || lst.getD e.on false)).getD false) = readyL (ops.toList.map (depsOf m)) lst.toList := by
  unfold readyL
  rw [List.length_map, Array.length_toList]
  apply List.filter_congr
  intro i hi
  have hi' : i < ops.size := List.mem_range.1 hi
  have e1 : ∀ (j : Nat) (b : Bool), lst.getD j b = lst.toList.getD j b := by
    intro j b
    simp [List.getD_eq_getElem?_getD, Array.getD_eq_getD_getElem?]
  rw [e1]
  congr 1
  rw [Array.getElem?_eq_getElem hi']
  have e2 : (ops.toList.map (depsOf m)).getD i [] = depsOf m ops[i] := by
    simp [List.getD_eq_getElem?_getD, hi']
  rw [e2]
  simp only [Option.map_some, Option.getD_some, depsOf, ← Array.all_toList, List.all_map, List.all_filter]
  congr 1
  funext e
  rw [e1]
  cases Region.binds m e <;> simp
theorem ready_sub (m : Region.Mode) (ops : Array Oper) (L : List Bool) (i : Nat) (h : i ∈ readyL (ops.toList.map (depsOf m)) L) : i ∈ readyL (ops.toList.map (depsOf .any)) L := by
  simp only [readyL, List.mem_filter, List.length_map, Array.length_toList, List.mem_range, Bool.and_eq_true] at h ⊢
  obtain ⟨h1, h2, h3⟩ := h
  refine ⟨h1, h2, ?_⟩
  rw [List.all_eq_true] at h3 ⊢
  intro j hj
  apply h3
  have e2 : ∀ m, (ops.toList.map (depsOf m)).getD i [] = depsOf m ops[i] := by
    intro m
    simp [List.getD_eq_getElem?_getD, h1]
  rw [e2] at hj ⊢
  simp only [depsOf, List.mem_map, List.mem_filter] at hj ⊢
  obtain ⟨e, ⟨he, hb⟩, rfl⟩ := hj
  exact ⟨e, ⟨he, binds_any m e hb⟩, rfl⟩
def ranksOk (m : Region.Mode) (ops : Array Oper) (rk : List Nat) : Bool :=
  (List.range (ops.toList.map (depsOf m)).length).all (fun i => ((ops.toList.map (depsOf m)).getD i []).all fun j => Nat.blt j (ops.toList.map (depsOf m)).length && Nat.blt (rk.getD j 0) (rk.getD i 0))
theorem go_ord (m : Region.Mode) (ops : Array Oper) (rk : List Nat) (hrk : ranksOk m ops rk = true) : ∀ (fuel t : Nat) (lst : Array Bool) (acc : List Nat), lst.size = ops.size → left lst.toList = fuel →
    ∃ l, Region.linearise.go m ops fuel t lst acc = acc.reverse ++ l ∧ Ord (ops.toList.map (depsOf .any)) fuel lst.toList l
  | 0, t, lst, acc, _, _ => ⟨[], by simp [Region.linearise.go], rfl⟩
  | fuel + 1, t, lst, acc, hs, hl => by
    unfold Region.linearise.go
    simp only [ready_eq]
    obtain ⟨i, hi⟩ := left_some (L := lst.toList) (by omega)
    obtain ⟨j, hj⟩ := ready_some (ds := ops.toList.map (depsOf m)) (rk := rk) hrk (L := lst.toList) (by simpa using hs) _ i (Nat.le_refl _) hi
    have hpos : 0 < (readyL (ops.toList.map (depsOf m)) lst.toList).length := List.length_pos_of_mem hj
    generalize hrs : readyL (ops.toList.map (depsOf m)) lst.toList = rs at hpos
    have hlt : t % rs.length < rs.length := Nat.mod_lt _ hpos
    rw [List.getElem?_eq_getElem hlt]
    simp only
    have hmem : rs[t % rs.length] ∈ rs := List.getElem_mem hlt
    generalize rs[t % rs.length] = q at hmem
    rw [← hrs] at hmem
    have hq : lst.toList[q]? = some false := by
      have h := hmem
      simp only [readyL, List.mem_filter, List.mem_range, Bool.and_eq_true, Bool.not_eq_true'] at h
      obtain ⟨h1, h2, _⟩ := h
      have h1' : q < lst.size := by rw [hs]; simpa using h1
      have h3 : lst.toList.getD q true = lst[q] := by simp [List.getD_eq_getElem?_getD, h1']
      rw [h3] at h2
      simp [h1', h2]
    obtain ⟨l, h1, h2⟩ := go_ord m ops rk hrk fuel (t / rs.length) (lst.setIfInBounds q true) (q :: acc) (by simpa using hs) (by
      have := left_set hq
      simp only [Array.toList_setIfInBounds]
      omega)
    refine ⟨q :: l, by rw [h1]; simp, q, l, rfl, ready_sub m ops _ _ hmem, ?_⟩
    simpa using h2
theorem left_rep : ∀ n, left (List.replicate n false) = n
  | 0 => rfl
  | n + 1 => by rw [List.replicate_succ]; simp [left, left_rep n]; omega
theorem sched_ord (mixed : Bool) (ops : Array Oper) (t : Nat) {r1 r2 r3 : List Nat} (h1 : ranksOk .any ops r1 = true) (h2 : ranksOk .text ops r2 = true) (h3 : ranksOk .gc ops r3 = true) :
    Ord (ops.toList.map (depsOf .any)) ops.size (List.replicate ops.size false) (Region.schedule mixed ops t) := by
  have key : ∀ m rk, ranksOk m ops rk = true → ∀ t, Ord (ops.toList.map (depsOf .any)) ops.size (List.replicate ops.size false) (Region.linearise m ops t) := by
    intro m rk hrk t
    obtain ⟨l, e, ho⟩ := go_ord m ops rk hrk ops.size t (Array.replicate ops.size false) [] (by simp) (by simp [left_rep])
    unfold Region.linearise
    rw [e]
    simpa using ho
  unfold Region.schedule
  split
  · exact key _ _ h1 _
  · split
    · exact key _ _ h2 _
    · exact key _ _ h3 _
section
variable {C : Cx} {H : PH} {A : List (Nat × Value)} {Ls : List Res} {k : List Item}
theorem G.draw {id : Nat} {ops : Array Oper} (ds : List (List Nat)) (n : Nat) (r1 r2 r3 : List Nat) (hn : ops.size = n) (hds : ops.toList.map (depsOf .any) = ds) (h1 : ranksOk .any ops r1 = true) (h2 : ranksOk .text ops r2 = true) (h3 : ranksOk .gc ops r3 = true)
    (g : let C' := C; let ops' := ops; let k' := k; ∀ l, Ord ds n (List.replicate n false) l → G C' H A Ls (.inRegion ops' l :: k')) : G C H A Ls (.code (.region id ops true) :: k) := by
  intro a w ha hs
  refine Goes.via fun b cs hb hk hr => ?_
  have hord := sched_ord (C.P.follows .mixedOrders) ops (w.tape w.drawn (.order b.fn id)) h1 h2 h3
  rw [hn, hds] at hord
  exact ⟨_, a, { w with drawn := w.drawn + 1 }, g _ hord a { w with drawn := w.drawn + 1 } ha (hs.drew _), .one (Go.stepR_region_draw)⟩
end
section
variable {C : Cx} {H : PH} {A : List (Nat × Value)} {Ls : List Res} {k : List Item} {ops : Array Oper} {ds : List (List Nat)} {n : Nat} {L : List Bool} {l : List Nat}
theorem G.fork (rs : List Nat) (h : Ord ds (n + 1) L l) (hr : readyL ds L = rs) (all : AllOf (fun i => ∀ rest, Ord ds n (L.set i true) rest → G C H A Ls (.inRegion ops (i :: rest) :: k)) rs) : G C H A Ls (.inRegion ops l :: k) := Ord.fork (Q := fun l => G C H A Ls (.inRegion ops l :: k)) h hr all
theorem G.drawnAll (h : Ord ds 0 L l) (g : G C H A Ls (.inRegion ops [] :: k)) : G C H A Ls (.inRegion ops l :: k) := h.nil (Q := fun l => G C H A Ls (.inRegion ops l :: k)) g
end
theorem byP {p q : Prop} [Decidable p] (h1 : p → q) (h2 : ¬ p → q) : q := if h : p then h1 h else h2 h
theorem byB {b : Bool} {q : Prop} (h1 : b = true → q) (h2 : b = false → q) : q := by cases b; exact h2 rfl; exact h1 rfl
end Go.Proofs.Ytpffemcpfddjbaa.K
