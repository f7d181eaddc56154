/- The ground of this seat's proofs: a run of one function's code as a judgement 'G' over slots and resources (own text). -/
import Derived.Calls
import Derived.AtR
import Derived.Below
import Derived.Laws.World
namespace Go.Proofs.Ytpffemcpfddjbaa.K
open Go

/-! ## Running with a stack of items -/
/-- of what make a frame is: whether it is a loop's round; which marks stand among its deferred calls -/
structure Mk where
  ro : Option Nat
  ds : List Deferred
def Mk.plain : Mk := ⟨none, []⟩
def wd (a : Act) (ds : List Deferred) : Act := { a with defers := a.defers ++ ds }
theorem wd_eval (a : Act) (ds : List Deferred) (x : Operand) : (wd a ds).eval x = a.eval x := by cases x <;> rfl
theorem wd_eval' (a : Act) (ds : List Deferred) : (wd a ds).eval = a.eval := funext (wd_eval a ds)
theorem wd_put (a : Act) (ds : List Deferred) (d : Option Nat) (v : Value) : (wd a ds).put d v = wd (a.put d v) ds := by cases d <;> rfl
def Goes (P : Program) (f : FuncId) (R : Ending → World → Prop) (m : Mk) (stk : List Item) (a : Act) (w : World) : Prop :=
  match m.ro with
  | none => ∀ (b : Frame) (cs : List Frame), b.fn = f → b.kind = .normal → b.roundOf = none →
    ∃ e w' fr, R e w' ∧ Comes P (lone (b.atR (wd a m.ds) stk) cs w) (lone fr cs w') e ∧ fr.fn = f ∧ fr.leaving P w' e
  | some l => ∀ (b c : Frame) (cs : List Frame), b.fn = f → b.kind = .normal → b.roundOf = some l →
    ∃ v w', R (.returned v) w' ∧ Steps P (lone (b.atR (wd a m.ds) stk) (c :: cs) w) (lone (c.finish v) cs w')
theorem Goes.via {P : Program} {f : FuncId} {R : Ending → World → Prop} {m : Mk} {k : List Item} {a : Act} {w : World}
    (h : ∀ (b : Frame) (cs : List Frame), b.fn = f → b.kind = .normal → b.roundOf = m.ro → ∃ k' a' w', Goes P f R m k' a' w' ∧ Steps P (lone (b.atR (wd a m.ds) k) cs w) (lone (b.atR (wd a' m.ds) k') cs w')) : Goes P f R m k a w := by
  unfold Goes
  cases hm : m.ro with
  | none =>
    intro b cs hb hk hr
    obtain ⟨k', a', w', g, s⟩ := h b cs hb hk (by rw [hm]; exact hr)
    unfold Goes at g
    rw [hm] at g
    obtain ⟨e, w2, fr, hR, hc, hf, hl⟩ := g b cs hb hk hr
    exact ⟨e, w2, fr, hR, hc.of_steps s, hf, hl⟩
  | some l =>
    intro b c cs hb hk hr
    obtain ⟨k', a', w', g, s⟩ := h b (c :: cs) hb hk (by rw [hm]; exact hr)
    unfold Goes at g
    rw [hm] at g
    obtain ⟨v, w2, hR, hc⟩ := g b c cs hb hk hr
    exact ⟨v, w2, hR, s.trans hc⟩
theorem Goes.of_step {P : Program} {f : FuncId} {R : Ending → World → Prop} {m : Mk} {k k' : List Item} {a a' : Act} {w w' : World}
    (h : ∀ (b : Frame) (cs : List Frame), step P (lone (b.atR (wd a m.ds) k) cs w) = .next (lone (Frame.atR b (wd a' m.ds) k') cs w')) (g : Goes P f R m k' a' w') : Goes P f R m k a w :=
  Goes.via fun b cs _ _ _ => ⟨k', a', w', g, .one (h b cs)⟩

section structural
variable {P : Program} {f : FuncId} {R : Ending → World → Prop} {m : Mk} {k : List Item} {a : Act} {w : World}
theorem Goes.skip (g : Goes P f R m k a w) : Goes P f R m (.code .skip :: k) a w := g.of_step fun _ _ => stepR_skip
theorem Goes.inBlock {id : Nat} (g : Goes P f R m k a w) : Goes P f R m (.inBlock id :: k) a w := g.of_step fun _ _ => stepR_inBlock
theorem Goes.seq {x y : Code} (g : Goes P f R m (.code x :: .code y :: k) a w) : Goes P f R m (.code (.seq x y) :: k) a w := g.of_step fun _ _ => stepR_seq
theorem Goes.block {id : Nat} {c : Code} (g : Goes P f R m (.code c :: .inBlock id :: k) a w) : Goes P f R m (.code (.block id c) :: k) a w := g.of_step fun _ _ => stepR_block
theorem Goes.loop {c : Code} (g : Goes P f R m (.code c :: .inLoop c :: k) a w) : Goes P f R m (.code (.loop c) :: k) a w := g.of_step fun _ _ => stepR_loop
theorem Goes.inLoop {c : Code} (g : Goes P f R m (.code c :: .inLoop c :: k) a w) : Goes P f R m (.inLoop c :: k) a w := g.of_step fun _ _ => stepR_inLoop
theorem Goes.exit {id : Nat} {k' : List Item} (h : exitTo id k = some k') (g : Goes P f R m k' a w) : Goes P f R m (.code (.exit id) :: k) a w := g.of_step fun _ _ => stepR_exit h
theorem Goes.cond {c : Operand} {x y : Code} {t : Bool} (h : a.eval c = .bool t) (g : Goes P f R m (.code (if t then x else y) :: k) a w) : Goes P f R m (.code (.cond c x y) :: k) a w := g.of_step fun _ _ => stepR_cond (by rw [wd_eval]; exact h)
theorem Goes.regionEnd {ops : Array Oper} (g : Goes P f R m k a w) : Goes P f R m (.inRegion ops [] :: k) a w := g.of_step fun _ _ => stepR_region_end
theorem Goes.region {id : Nat} {ops : Array Oper} {l : List Nat} (hl : List.range ops.size = l) (g : Goes P f R m (.inRegion ops l :: k) a w) : Goes P f R m (.code (.region id ops false) :: k) a w := by
  subst hl
  exact g.of_step fun _ _ => stepR_region
theorem Goes.opSkip {ops : Array Oper} {i : Nat} {rest : List Nat} {o : Oper} (ho : ops[i]? = some o) (hw : Region.wanted o (yielded ops a.tmps) = false)
    (g : Goes P f R m (.inRegion ops rest :: k) (a.put o.dst undef) w) : Goes P f R m (.inRegion ops (i :: rest) :: k) a w := by
  refine g.of_step fun b cs => ?_
  have := stepR_op_skip (P := P) (b := b) (a := wd a m.ds) (k := k) (cs := cs) (w := w) (ops := ops) (i := i) (rest := rest) (by simpa [ho, wd] using hw)
  rw [wd_put] at this
  simpa [ho] using this
theorem sem_of {ro : Option Nat} {ρ : Operand → Value} {o : Oper} {P : Program} {w w' : World} {x : Next} (h : (execOp ρ o).run P w = .ok x w') (hx : ∀ d, x ≠ .defer d) : (Oper.semAt ro ρ o).run P w = .ok x w' := by
  cases ro with
  | none => exact h
  | some l =>
    rw [Oper.semAt_eq (some l) ρ o]
    · exact h
    · intro c hc
      simp only [execOp, hc, Sem.run_bind] at h
      cases hr : (resolve ρ c o.type).run P w with
      | ok d w1 => rw [hr] at h; simp at h; exact hx d h.1.symm
      | halt s w1 => rw [hr] at h; simp at h
/-- One operation: its run; whoever is called comes back. -/
theorem Goes.opV {ops : Array Oper} {i : Nat} {rest : List Nat} {o : Oper} {v : Value} {w' : World} (ho : ops[i]? = some o) (hw : Region.wanted o (yielded ops a.tmps) = true)
    (hr : (execOp a.eval o).run P w = .ok (.value v) w') (g : Goes P f R m (.inRegion ops rest :: k) (a.put o.dst v) w') : Goes P f R m (.inRegion ops (i :: rest) :: k) a w := by
  refine g.of_step fun b cs => ?_
  have hg := stepGR_op (P := P) (b := b) (a := wd a m.ds) (k := k) (cs := cs) (w := w) (rest := rest) ho hw
  have hfin : (b.atR (wd a m.ds) (.inRegion ops (i :: rest) :: k)).finish v = b.atR (wd (a.put o.dst v) m.ds) (.inRegion ops rest :: k) := by
    rw [Frame.finish_atR, ho, ← wd_put]; rfl
  refine step_lone_go ?_
  rw [hg, ← hfin, wd_eval']
  simp [stepG.apply, sem_of hr (fun d h => by cases h)]
theorem Goes.opU {ops : Array Oper} {i : Nat} {rest : List Nat} {o : Oper} {w' : World} (ho : ops[i]? = some o) (hw : Region.wanted o (yielded ops a.tmps) = true)
    (hr : (execOp a.eval o).run P w = .ok .skip w') (g : Goes P f R m (.inRegion ops rest :: k) (a.put o.dst undef) w') : Goes P f R m (.inRegion ops (i :: rest) :: k) a w := by
  refine g.of_step fun b cs => ?_
  have hg := stepGR_op (P := P) (b := b) (a := wd a m.ds) (k := k) (cs := cs) (w := w) (rest := rest) ho hw
  have hfin : (b.atR (wd a m.ds) (.inRegion ops (i :: rest) :: k)).finish undef = b.atR (wd (a.put o.dst undef) m.ds) (.inRegion ops rest :: k) := by
    rw [Frame.finish_atR, ho, ← wd_put]; rfl
  refine step_lone_go ?_
  rw [hg, ← hfin, wd_eval']
  simp [stepG.apply, sem_of hr (fun d h => by cases h)]
theorem Goes.opE {ops : Array Oper} {i : Nat} {rest : List Nat} {o : Oper} {f' : FuncId} {args : Array Value} {w' : World} (ho : ops[i]? = some o) (hw : Region.wanted o (yielded ops a.tmps) = true)
    (hr : (execOp a.eval o).run P w = .ok (.enter f' args) w') (h : Calls P f' args w' fun e w'' => ∃ v, e = .returned v ∧ Goes P f R m (.inRegion ops rest :: k) (a.put o.dst v) w'') : Goes P f R m (.inRegion ops (i :: rest) :: k) a w := by
  refine Goes.via fun b cs hb hk hro => ?_
  have hg := stepGR_op (P := P) (b := b) (a := wd a m.ds) (k := k) (cs := cs) (w := w) (rest := rest) ho hw
  obtain ⟨e, w2, fr, ⟨v, rfl, g⟩, hsteps, _, hleave⟩ := h (b.atR (wd a m.ds) (.inRegion ops (i :: rest) :: k) :: cs)
  have hfin : (b.atR (wd a m.ds) (.inRegion ops (i :: rest) :: k)).finish v = b.atR (wd (a.put o.dst v) m.ds) (.inRegion ops rest :: k) := by
    rw [Frame.finish_atR, ho, ← wd_put]; rfl
  have henter : step P (lone (b.atR (wd a m.ds) (.inRegion ops (i :: rest) :: k)) cs w) =
      .next (lone (Frame.enter P f' args .normal) (b.atR (wd a m.ds) (.inRegion ops (i :: rest) :: k) :: cs) w') :=
    step_lone_go (by rw [hg, wd_eval']; simp [stepG.apply, sem_of hr (fun d h => by cases h), Frame.atR])
  refine ⟨_, _, w2, g, .head henter (Steps.trans hsteps (.one ?_))⟩
  rw [← hfin]; exact step_leave_returned hleave
theorem Goes.ret {v : Value} {fn : Func} (hm : m = .plain) (hf : P.funcs[f]? = some fn) (hd : a.defers = []) (hv : (results fn a.tmps).run P w = .ok v w) (hR : R (.returned v) w) :
    Goes P f R m (.code .ret :: k) a w := by
  subst hm
  intro b cs hb hk hr
  refine ⟨.returned v, w, _, hR, Steps.one (stepR_ret hr), hb, rfl, ?_, hk, fn, ?_, hv⟩
  · show a.defers ++ [] = []; rw [hd]; rfl
  · rw [← hf]; exact congrArg _ hb
theorem Goes.done {v : Value} {fn : Func} (hm : m = .plain) (hf : P.funcs[f]? = some fn) (hd : a.defers = []) (hv : (results fn a.tmps).run P w = .ok v w) (hR : R (.returned v) w) :
    Goes P f R m [] a w := by
  subst hm
  intro b cs hb hk hr
  refine ⟨.returned v, w, _, hR, Steps.one (stepR_end hr), hb, rfl, ?_, hk, fn, ?_, hv⟩
  · show a.defers ++ [] = []; rw [hd]; rfl
  · rw [← hf]; exact congrArg _ hb
end structural

theorem Goes.calls {P : Program} {f : FuncId} {fn : Func} {c : Code} {args : Array Value} {w : World} {R : Ending → World → Prop}
    (hf : P.funcs[f]? = some fn) (hb : fn.body = some c)
    (h : Goes P f R .plain [.code c] { tmps := args ++ Array.replicate (fn.ntmps - args.size) undef, defers := [] } w) : Calls P f args w R := by
  intro cs
  let b : Frame := { (default : Frame) with fn := f, kind := .normal, roundOf := none }
  have henter : Frame.enter P f args .normal =
      b.atR (wd { tmps := args ++ Array.replicate (fn.ntmps - args.size) undef, defers := [] } []) [.code c] := by
    simp [Frame.enter, Frame.atR, wd, hf, hb, b]
  obtain ⟨e, w', fr, hR, hc, hfn, hl⟩ := h b cs rfl rfl rfl
  rw [show (Mk.plain).ds = [] from rfl, ← henter] at hc
  exact ⟨e, w', fr, hR, hc, hfn, hl⟩

/-! ## What is known of the slots -/
def look : List (Nat × Value) → Nat → Option Value
  | [], _ => none
  | (i, v) :: r, n => if n = i then some v else look r n
structure Slots (n : Nat) (a : Act) (A : List (Nat × Value)) : Prop where
  size : a.tmps.size = n
  defers : a.defers = []
  at_ : ∀ i v, look A i = some v → i < n ∧ a.tmps.getD i undef = v
theorem Slots.put {n : Nat} {a : Act} {A : List (Nat × Value)} (h : Slots n a A) {d : Nat} (hd : d < n) (v : Value) : Slots n (a.put (some d) v) ((d, v) :: A) := by
  refine ⟨by simp [Act.put, h.size], by simp [Act.put, h.defers], fun i u hu => ?_⟩
  simp only [look] at hu
  by_cases hi : i = d
  · subst hi
    rw [if_pos rfl] at hu
    injection hu with hu
    subst hu
    exact ⟨hd, by simp [Act.put, Array.getD_eq_getD_getElem?, h.size, hd]⟩
  · rw [if_neg hi] at hu
    obtain ⟨h1, h2⟩ := h.at_ i u hu
    refine ⟨h1, ?_⟩
    rw [← h2]
    simp only [Act.put, Array.getD_eq_getD_getElem?]
    rw [Array.getElem?_setIfInBounds_ne (fun e => hi e.symm)]
theorem Slots.put' {n : Nat} {a : Act} {A : List (Nat × Value)} (h : Slots n a A) {d : Option Nat} (v : Value) (hd : d = none) : Slots n (a.put d v) A := by subst hd; exact h
theorem Slots.less {n : Nat} {a : Act} {A B : List (Nat × Value)} (h : Slots n a A) (hB : ∀ i v, look B i = some v → look A i = some v) : Slots n a B :=
  ⟨h.size, h.defers, fun i v hv => h.at_ i v (hB i v hv)⟩
/-- What an operand is. -/
def ev (A : List (Nat × Value)) : Operand → Option Value
  | .tmp t => look A t
  | .const v => some v
  | .global g => some (.pointer (some ⟨g, 0, none⟩))
  | .func f => some (.func (.func f) #[] #[])
theorem Slots.eval {n : Nat} {a : Act} {A : List (Nat × Value)} (h : Slots n a A) {x : Operand} {v : Value} (hv : ev A x = some v) : a.eval x = v := by
  cases x with
  | tmp t => exact (h.at_ t v hv).2
  | const v' => injection hv
  | global g => injection hv
  | func f => injection hv
def evs (A : List (Nat × Value)) : List Operand → Option (List Value)
  | [] => some []
  | x :: r => match ev A x, evs A r with
    | some v, some l => some (v :: l)
    | _, _ => none
theorem Slots.evals {n : Nat} {a : Act} {A : List (Nat × Value)} (h : Slots n a A) : ∀ {xs : List Operand} {vs : List Value}, evs A xs = some vs → xs.map a.eval = vs
  | [], vs, hv => by simp [evs] at hv; simp [hv]
  | x :: r, vs, hv => by
    simp only [evs] at hv
    split at hv
    · rename_i v l h1 h2
      injection hv with hv
      subst hv
      simp [h.eval h1, h.evals h2]
    · cases hv
/-- all that B says, A says: what may be forgotten -/
def subs (A : List (Nat × Value)) : List (Nat × Value) → Prop
  | [] => True
  | p :: r => look A p.1 = some p.2 ∧ subs A r
theorem subs_look {A : List (Nat × Value)} : ∀ {B : List (Nat × Value)}, subs A B → ∀ i v, look B i = some v → look A i = some v
  | [], _, i, v, h => by simp [look] at h
  | p :: r, hs, i, v, h => by
    simp only [look] at h
    split at h
    · rename_i he
      injection h with h
      subst h; subst he
      exact hs.1
    · exact subs_look hs.2 i v h

/-! ## Parts of the heap -/
abbrev PH := Nat → Option Obj
def PH.le (h k : PH) : Prop := ∀ b o, h b = some o → k b = some o
def PH.disj (h k : PH) : Prop := ∀ b, h b = none ∨ k b = none
def PH.un (h k : PH) : PH := fun b => (h b).or (k b)
def PH.emp : PH := fun _ => none
def PH.one (g : Nat) (o : Obj) : PH := fun b => if b = g then some o else none
def ph (w : World) : PH := fun b => w.heap[b]?
namespace PH
theorem le_refl (h : PH) : h.le h := fun _ _ e => e
theorem le_trans {h k l : PH} (a : h.le k) (b : k.le l) : h.le l := fun x o e => b x o (a x o e)
theorem le_un_left (h k : PH) : h.le (h.un k) := fun b o e => by simp [un, e]
theorem le_un_right {h k : PH} (d : h.disj k) : k.le (h.un k) := fun b o e => by
  rcases d b with x | x
  · simp [un, x, e]
  · rw [x] at e; cases e
theorem disj_symm {h k : PH} (d : h.disj k) : k.disj h := fun b => (d b).symm
theorem un_comm {h k : PH} (d : h.disj k) : h.un k = k.un h := by
  funext b
  rcases d b with x | x <;> simp [un, x]
theorem un_assoc (h k l : PH) : (h.un k).un l = h.un (k.un l) := by funext b; simp [un, Option.or_assoc]
theorem un_emp (h : PH) : h.un emp = h := by funext b; simp [un, emp]
theorem emp_un (h : PH) : emp.un h = h := by funext b; simp [un, emp]
theorem disj_emp (h : PH) : h.disj emp := fun _ => .inr rfl
theorem emp_disj (h : PH) : emp.disj h := fun _ => .inl rfl
theorem disj_un {h k l : PH} : h.disj (k.un l) ↔ h.disj k ∧ h.disj l := by
  constructor
  · intro d
    refine ⟨fun b => ?_, fun b => ?_⟩ <;> (rcases d b with x | x; exact .inl x; simp [un] at x; simp [x])
  · rintro ⟨d, e⟩ b
    rcases d b with x | x
    · exact .inl x
    · rcases e b with y | y
      · exact .inl y
      · exact .inr (by simp [un, x, y])
theorem un_disj {h k l : PH} : (h.un k).disj l ↔ h.disj l ∧ k.disj l :=
  ⟨fun d => let e := disj_un.1 (disj_symm d); ⟨disj_symm e.1, disj_symm e.2⟩, fun d => disj_symm (disj_un.2 ⟨disj_symm d.1, disj_symm d.2⟩)⟩
theorem un_le {h k l : PH} (a : h.le l) (b : k.le l) : (h.un k).le l := fun x o e => by
  simp only [un] at e
  cases hx : h x with
  | some y => rw [hx] at e; simp at e; subst e; exact a x y hx
  | none => rw [hx] at e; simp at e; exact b x o e
theorem disj_le {h k l : PH} (d : k.disj l) (a : h.le k) : h.disj l := fun b => by
  rcases d b with x | x
  · left
    cases hh : h b with
    | none => rfl
    | some o => rw [a b o hh] at x; cases x
  · exact .inr x
theorem emp_le (h : PH) : emp.le h := fun _ _ e => by cases e
theorem one_self (g : Nat) (o : Obj) : one g o g = some o := by simp [one]
theorem one_le {g : Nat} {o : Obj} {h : PH} (e : h g = some o) : (one g o).le h := fun b o' hb => by
  simp only [one] at hb
  split at hb
  · rename_i hg; subst hg; injection hb with hb; subst hb; exact e
  · cases hb
theorem le_one {g : Nat} {o : Obj} {h : PH} (e : (one g o).le h) : h g = some o := e g o (one_self g o)
theorem one_disj {g : Nat} {o : Obj} {h : PH} (e : h g = none) : (one g o).disj h := fun b => by
  by_cases hb : b = g
  · subst hb; exact .inr e
  · exact .inl (by simp [one, hb])
theorem disj_one {g : Nat} {o : Obj} {h : PH} (d : (one g o).disj h) : h g = none := by
  rcases d g with x | x
  · rw [one_self] at x; cases x
  · exact x
theorem disj_one_swap {g : Nat} {o o' : Obj} {h : PH} (d : (one g o).disj h) : (one g o').disj h := one_disj (disj_one d)
end PH

/-- A resource: what is so of a part of the heap that is one's own, over what is only read. -/
structure Res where
  holds : PH → PH → Prop
  mono : ∀ {H H' h : PH}, H.le H' → holds H h → holds H' h
def Sats (H : PH) : List Res → PH → Prop
  | [], h => h = PH.emp
  | r :: rs, h => ∃ h1 h2, PH.disj h1 h2 ∧ h = PH.un h1 h2 ∧ r.holds H h1 ∧ Sats H rs h2
theorem Sats.mono {H H' : PH} (e : H.le H') : ∀ {Ls : List Res} {h : PH}, Sats H Ls h → Sats H' Ls h
  | [], _, s => s
  | r :: rs, _, ⟨h1, h2, d, u, a, s⟩ => ⟨h1, h2, d, u, r.mono e a, s.mono e⟩
/-- The world: what is only read, what is one's own; the outer world as it was. -/
structure St (w O : World) (H : PH) (Ls : List Res) : Prop where
  heap : ∃ h, Sats H Ls h ∧ PH.disj H h ∧ H.le (ph w) ∧ h.le (ph w)
  os : w.os = O.os
  tape : w.tape = O.tape
  output : w.output = O.output
theorem St.ro {w O : World} {H : PH} {Ls : List Res} (s : St w O H Ls) : H.le (ph w) := by obtain ⟨h, _, _, a, _⟩ := s.heap; exact a
/-- The list of resources may be put into another order: the head and the next. -/
theorem Sats.swap {H : PH} {a b : Res} {Ls : List Res} {h : PH} (s : Sats H (a :: b :: Ls) h) : Sats H (b :: a :: Ls) h := by
  obtain ⟨h1, h2, d, rfl, ha, h3, h4, d2, rfl, hb, s⟩ := s
  rw [PH.disj_un] at d
  refine ⟨h3, h1.un h4, PH.disj_un.2 ⟨PH.disj_symm d.1, d2⟩, ?_, hb, h1, h4, d.2, rfl, ha, s⟩
  rw [← PH.un_assoc, ← PH.un_assoc, PH.un_comm d.1]
theorem Sats.cons {H : PH} {r : Res} {L L' : List Res} (e : ∀ h, Sats H L h → Sats H L' h) {h : PH} (s : Sats H (r :: L) h) : Sats H (r :: L') h := by
  obtain ⟨h1, h2, d, u, a, s⟩ := s
  exact ⟨h1, h2, d, u, a, e _ s⟩
theorem St.map {w O : World} {H : PH} {L L' : List Res} (s : St w O H L) (e : ∀ h, Sats H L h → Sats H L' h) : St w O H L' := by
  obtain ⟨h, a, d, b, c⟩ := s.heap
  exact ⟨⟨h, e h a, d, b, c⟩, s.os, s.tape, s.output⟩
theorem St.drew {w O : World} {H : PH} {L : List Res} (s : St w O H L) (n : Nat) : St { w with drawn := n } O H L := ⟨s.heap, s.os, s.tape, s.output⟩
/-- A new block. -/
theorem St.alloc {w O : World} {H : PH} {L : List Res} (s : St w O H L) (o : Obj) {r : Res} (hr : r.holds H (PH.one w.heap.size o)) : St (w.alloc o) O H (r :: L) := by
  obtain ⟨h, a, d, b, c⟩ := s.heap
  have up : (ph w).le (ph (w.alloc o)) := fun i x e => by
    simp only [ph] at e ⊢
    have hi : i < w.heap.size := (Array.getElem?_eq_some_iff.1 e).1
    show (w.heap.push o)[i]? = some x
    rw [Array.getElem?_push_lt hi, ← e, Array.getElem?_eq_getElem hi]
  have none_ : ∀ {k : PH}, k.le (ph w) → k w.heap.size = none := fun {k} e => by
    cases hk : k w.heap.size with
    | none => rfl
    | some x => have := e _ _ hk; simp [ph] at this
  refine ⟨⟨(PH.one w.heap.size o).un h, ⟨_, h, PH.one_disj (none_ c), rfl, hr, a⟩, PH.disj_un.2 ⟨PH.disj_symm (PH.one_disj (none_ b)), d⟩, PH.le_trans b up, ?_⟩, s.os, s.tape, s.output⟩
  exact PH.un_le (PH.one_le (show (w.heap.push o)[w.heap.size]? = some o from Array.getElem?_push_size)) (PH.le_trans c up)
/-- The world with one block turned. -/
def turned (w : World) (g : Nat) (o : Obj) : World := { w with heap := w.heap.setIfInBounds g o }
/-- A block of one's own turned. -/
theorem St.turn {w w' O : World} {H : PH} {L : List Res} {r r' : Res} (s : St w O H (r :: L))
    (ho : w'.os = w.os) (ht : w'.tape = w.tape) (hout : w'.output = w.output)
    (hfp : ∀ h, r.holds H h → h.le (ph w) → ∃ h', r'.holds H h' ∧ (∀ b, h b = none ↔ h' b = none) ∧ h'.le (ph w') ∧ ∀ b, h b = none → ph w' b = ph w b) : St w' O H (r' :: L) := by
  obtain ⟨h, ⟨k1, k2, d, rfl, a, sL⟩, dd, b, c⟩ := s.heap
  rw [PH.disj_un] at dd
  have c1 : k1.le (ph w) := PH.le_trans (PH.le_un_left _ _) c
  have c2 : k2.le (ph w) := PH.le_trans (PH.le_un_right d) c
  obtain ⟨k1', a', hdom, hle, hrest⟩ := hfp k1 a c1
  have dj : ∀ {l : PH}, l.disj k1 → l.disj k1' := fun {l} dl x => by
    rcases dl x with y | y
    · exact .inl y
    · exact .inr ((hdom x).1 y)
  have keep : ∀ {l : PH}, l.disj k1 → l.le (ph w) → l.le (ph w') := fun {l} dl el x o e => by
    rcases dl x with y | y
    · rw [y] at e; cases e
    · rw [hrest x y]; exact el x o e
  refine ⟨⟨k1'.un k2, ⟨k1', k2, PH.disj_symm (dj (PH.disj_symm d)), rfl, a', sL⟩, PH.disj_un.2 ⟨dj dd.1, dd.2⟩, keep dd.1 b, PH.un_le hle (keep (PH.disj_symm d) c2)⟩, ho.trans s.os, ht.trans s.tape, hout.trans s.output⟩

end Go.Proofs.Ytpffemcpfddjbaa.K
