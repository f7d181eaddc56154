/- The judgement 'G': calls, structs built and taken apart; how a function's contract is begun (own text). -/
import Derived.Test.YtpffemcpfddjbaaMem4
namespace Go.Proofs.Ytpffemcpfddjbaa.K
open Go

def CallOk (P : Program) (f : FuncId) : Prop := ∀ (args : Array Value) (w : World), (callFunc f args).run P w = .ok (.enter f args) w
theorem CallOk.mk {P : Program} {f : FuncId} {fn : Func} (hf : P.funcs[f]? = some fn) (hn : (fn.name == "runtime.NumGoroutine") = false) (hb : fn.body.isNone = false) : CallOk P f := by
  intro args w
  have hn' : ¬ fn.name = "runtime.NumGoroutine" := by simpa using hn
  have hb' : ¬ fn.body = none := by intro e; rw [e] at hb; cases hb
  simp [callFunc, hf, hn', hb']
/-- A function's contract: what it gives, what is one's own then; Q is told of the value, what is read alone, and the resources. -/
def Ctr (P : Program) (f : FuncId) (args : List Value) (O : World) (H : PH) (Ls : List Res) (Q : Value → PH → List Res → Prop) : Prop :=
  ∀ w, St w O H Ls → Calls P f args.toArray w fun e w' => ∃ v H' L', e = .returned v ∧ H.le H' ∧ Q v H' L' ∧ St w' O H' L'
def Post (O : World) (H : PH) (Q : Value → PH → List Res → Prop) : Ending → World → Prop :=
  fun e w' => ∃ v H' L', e = .returned v ∧ H.le H' ∧ Q v H' L' ∧ St w' O H' L'
def idx : Nat → List Value → List (Nat × Value)
  | _, [] => []
  | n, v :: r => (n, v) :: idx (n + 1) r
theorem idx_look : ∀ {vs : List Value} {n i : Nat} {v : Value}, look (idx n vs) i = some v → ∃ j, i = n + j ∧ vs[j]? = some v
  | [], _, _, _, h => by simp [idx, look] at h
  | u :: r, n, i, v, h => by
    simp only [idx, look] at h
    split at h
    · rename_i e
      injection h with h
      exact ⟨0, by omega, by simp [h]⟩
    · obtain ⟨j, e, hj⟩ := idx_look h
      exact ⟨j + 1, by omega, by simpa using hj⟩
theorem Ctr.start {P : Program} {f : FuncId} {fn : Func} {c : Code} {args : List Value} {O : World} {H : PH} {Ls : List Res} {Q : Value → PH → List Res → Prop} {n : Nat} {A : List (Nat × Value)}
    (hf : P.funcs[f]? = some fn) (hb : fn.body = some c) (hn : fn.ntmps = n) (hA : idx 0 args = A) (hl : Nat.ble args.length n = true)
    (g : G ⟨P, f, fn, Post O H Q, O, n, .plain⟩ H A Ls [.code c]) : Ctr P f args O H Ls Q := by
  intro w hs
  refine Goes.calls hf hb ?_
  have hl' := Nat.le_of_ble_eq_true hl
  refine g _ w ⟨?_, rfl, fun i v hv => ?_⟩ hs
  · simp [hn]; omega
  · subst hA
    obtain ⟨j, rfl, hj⟩ := idx_look hv
    have hjl : j < args.length := (List.getElem?_eq_some_iff.1 hj).1
    refine ⟨show 0 + j < n by omega, ?_⟩
    simp only [Nat.zero_add, Array.getD_eq_getD_getElem?]
    rw [Array.getElem?_append_left (by simpa using hjl)]
    simp [hj]
theorem Ctr.mono {P : Program} {f : FuncId} {args : List Value} {O : World} {H : PH} {Ls : List Res} {Q Q' : Value → PH → List Res → Prop} (h : Ctr P f args O H Ls Q) (hq : ∀ v H' L', H.le H' → Q v H' L' → Q' v H' L') : Ctr P f args O H Ls Q' :=
  fun w hs => (h w hs).mono fun _ _ ⟨v, H', L', e, l, q, s⟩ => ⟨v, H', L', e, l, hq v H' L' l q, s⟩
/-- What does not lean on what is only read. -/
def Free (L : List Res) : Prop := ∀ r ∈ L, ∀ H H' h, r.holds H h → r.holds H' h
theorem Sats.free {H H' : PH} : ∀ {L : List Res} {h : PH}, Free L → Sats H L h → Sats H' L h
  | [], _, _, s => s
  | r :: L, _, hf, ⟨h1, h2, d, u, a, s⟩ => ⟨h1, h2, d, u, hf r (by simp) _ _ _ a, Sats.free (fun r' hr => hf r' (by simp [hr])) s⟩
theorem Sats.append {H : PH} : ∀ {L M : List Res} {h k : PH}, PH.disj h k → Sats H L h → Sats H M k → Sats H (L ++ M) (h.un k)
  | [], _, _, _, _, s, t => by rw [s, PH.emp_un]; exact t
  | r :: L, M, _, k, d, ⟨h1, h2, d', u, a, s⟩, t => by
    subst u
    rw [PH.un_disj] at d
    exact ⟨h1, h2.un k, PH.disj_un.2 ⟨d', d.1⟩, PH.un_assoc _ _ _, a, Sats.append d.2 s t⟩
/-- All may be read by whoever only makes new things. -/
theorem St.borrow {w O : World} {H : PH} {L : List Res} (s : St w O H L) : St w O (ph w) [] := ⟨⟨PH.emp, rfl, PH.disj_emp _, PH.le_refl _, PH.emp_le _⟩, s.os, s.tape, s.output⟩
theorem St.back {w w' O : World} {H H' : PH} {L L' : List Res} (s : St w O H L) (s' : St w' O H' L') (hle : (ph w).le H') (hf : Free L') : St w' O H (L' ++ L) := by
  obtain ⟨h, a, d, b, c⟩ := s.heap
  obtain ⟨h', a', d', b', c'⟩ := s'.heap
  have d1 : PH.disj h' h := PH.disj_symm (PH.disj_le d' (PH.le_trans c hle))
  have d2 : PH.disj H h' := PH.disj_le d' (PH.le_trans b hle)
  exact ⟨⟨h'.un h, Sats.append d1 (Sats.free hf a') a, PH.disj_un.2 ⟨d2, d⟩, PH.le_trans b (PH.le_trans hle b'), PH.un_le c' (PH.le_trans c (PH.le_trans hle b'))⟩, s'.os, s'.tape, s'.output⟩
theorem Free.nil : Free [] := fun _ h => by cases h
theorem Free.cons {r : Res} {L : List Res} (h : ∀ H H' x, r.holds H x → r.holds H' x) (hL : Free L) : Free (r :: L) := fun r' hr => by
  rcases List.mem_cons.1 hr with rfl | hr
  · exact h
  · exact hL r' hr
/-- A kind whose reading needs no memory. -/
def Flat {α : Type} (d : Kd α) : Prop := ∀ H H' x cs, d.R H x cs → d.R H' x cs
theorem Flat.sc {α : Type} {enc : α → Value} {h1 : ∀ x, (enc x).oneCell' = true} : Flat (Kd.sc enc h1) := fun _ _ _ _ h => h
theorem Flat.I {k : IntKind} : Flat (Kd.int k) := Flat.sc
theorem Flat.u8 : Flat Kd.u8 := Flat.sc
theorem Flat.B : Flat Kd.bool := Flat.sc
theorem Flat.S : Flat Kd.str := Flat.sc
theorem Flat.pair {α β : Type} {a : Kd α} {b : Kd β} (ha : Flat a) (hb : Flat b) : Flat (Kd.pair a b) := fun _ _ _ _ ⟨c1, c2, u, x, y⟩ => ⟨c1, c2, u, ha _ _ _ _ x, hb _ _ _ _ y⟩
theorem Flat.iso {α β : Type} {d : Kd α} {f : β → α} (h : Flat d) : Flat (Kd.iso d f) := fun _ _ _ _ x => h _ _ _ _ x
theorem Flat.rows {α : Type} {d : Kd α} (hd : Flat d) {H H' : PH} : ∀ {xs : List α} {cs : List Value}, Rows d H xs cs → Rows d H' xs cs
  | [], _, h => h
  | _ :: _, _, ⟨c1, c2, u, a, b⟩ => ⟨c1, c2, u, hd _ _ _ _ a, Flat.rows hd b⟩
theorem Flat.arr {α : Type} {n : Nat} {d : Kd α} (hd : Flat d) : Flat (Kd.arr n d) := fun _ _ _ _ h => ⟨h.1, hd.rows h.2⟩
theorem Free.os {α : Type} {t : TypeId} {d : Kd α} {B : Option Addr} {c : Nat} {xs : List α} (hd : Flat d) : ∀ H H' x, (OS t d B c xs).holds H x → (OS t d B c xs).holds H' x :=
  fun _ _ _ ⟨l, h⟩ => ⟨l, h.imp (fun h => h) fun ⟨g, sp, cs, rest, fz, u, r, n, f, z⟩ => ⟨g, sp, cs, rest, fz, u, hd.rows r, n, f, z⟩⟩
theorem Free.bk {α : Type} {t : TypeId} {d : Kd α} {g : Nat} {x : α} (hd : Flat d) : ∀ H H' h, (BK t d g x).holds H h → (BK t d g x).holds H' h := fun _ _ _ ⟨cs, r, u⟩ => ⟨cs, hd _ _ _ _ r, u⟩
section
variable {C : Cx} {H : PH} {A : List (Nat × Value)} {Ls L : List Res} {k : List Item}
variable {ops : Array Oper} {i : Nat} {rest : List Nat} {d : Nat} {ty : TypeId} {ps : String} {af : Array Edge} {gd : Option (Nat × Bool)}
theorem callW {dst : Option Tmp} {f : FuncId} {args : Array Operand} {ats : Array TypeId} {vs : List Value} (hargs : evs A args.toList = some vs) (hok : CallOk C.P f) {a : Act} (ha : Slots C.n a A) (w : World) :
    (execOp a.eval { dst := dst, op := .call { callee := .value (.func f), args := args, argTypes := ats }, type := ty, pos := ps, after := af, guard := gd }).run C.P w = .ok (.enter f vs.toArray) w := by
  have e : args.map a.eval = vs.toArray := by rw [← ha.evals hargs]; exact (List.map_toArray ..).symm ▸ rfl
  simp [execOp, resolve, e, Act.eval, Deferred.ofValue, invoke, hok vs.toArray w]
/-- A call, by the callee's contract. -/
theorem G.call {f : FuncId} {args : Array Operand} {ats : Array TypeId} {vs : List Value} {Q : Value → PH → List Res → Prop}
    (ho : ops[i]? = some { dst := some d, op := .call { callee := .value (.func f), args := args, argTypes := ats }, type := ty, pos := ps, after := af, guard := gd }) (hw : wantedA A ops gd = some true) (hn : Nat.blt d C.n = true)
    (hargs : evs A args.toList = some vs) (hok : CallOk C.P f) (hc : Ctr C.P f vs C.O H Ls Q)
    (g : ∀ v H' L', H.le H' → Q v H' L' → G C H' ((d, v) :: A) L' (.inRegion ops rest :: k)) : G C H A Ls (.inRegion ops (i :: rest) :: k) := by
  intro a w ha hs
  refine Goes.opE ho (wanted_of ha hw) (callW hargs hok ha w) ?_
  refine (hc w hs).mono ?_
  rintro e w' ⟨v, H', L', rfl, hle, hq, hst⟩
  exact ⟨v, rfl, g v H' L' hle hq _ w' (ha.put (by simpa [Nat.blt_eq] using hn) _) hst⟩
/-- A call of whoever makes new things alone: all that is one's own may be read by it. -/
theorem G.callB {f : FuncId} {args : Array Operand} {ats : Array TypeId} {vs : List Value} {Q : Value → PH → List Res → Prop}
    (ho : ops[i]? = some { dst := some d, op := .call { callee := .value (.func f), args := args, argTypes := ats }, type := ty, pos := ps, after := af, guard := gd }) (hw : wantedA A ops gd = some true) (hn : Nat.blt d C.n = true)
    (hargs : evs A args.toList = some vs) (hok : CallOk C.P f) (hc : ∀ w, St w C.O H Ls → Ctr C.P f vs C.O (ph w) [] Q) (hfree : ∀ v H' L', Q v H' L' → Free L')
    (g : ∀ v L', (∃ H', Q v H' L') → G C H ((d, v) :: A) (L' ++ Ls) (.inRegion ops rest :: k)) : G C H A Ls (.inRegion ops (i :: rest) :: k) := by
  intro a w ha hs
  refine Goes.opE ho (wanted_of ha hw) (callW hargs hok ha w) ?_
  refine (hc w hs w hs.borrow).mono ?_
  rintro e w' ⟨v, H', L', rfl, hle, hq, hst⟩
  exact ⟨v, rfl, g v L' ⟨H', hq⟩ _ w' (ha.put (by simpa [Nat.blt_eq] using hn) _) (hs.back hst hle (hfree v H' L' hq))⟩
/-- A call of a function value that is known. -/
theorem callVW {dst : Option Tmp} {f : FuncId} {x : Operand} {fs cs : Array Value} {args : Array Operand} {ats : Array TypeId} {vs : List Value} (hx : ev A x = some (.func (.func f) fs cs)) (hargs : evs A args.toList = some vs) (hok : CallOk C.P f) {a : Act} (ha : Slots C.n a A) (w : World) :
    (execOp a.eval { dst := dst, op := .call { callee := .value x, args := args, argTypes := ats }, type := ty, pos := ps, after := af, guard := gd }).run C.P w = .ok (.enter f (fs ++ vs.toArray ++ cs)) w := by
  have e : args.map a.eval = vs.toArray := by rw [← ha.evals hargs]; exact (List.map_toArray ..).symm ▸ rfl
  simp [execOp, resolve, e, ha.eval hx, Deferred.ofValue, invoke, hok _ w]
theorem G.callV {f : FuncId} {x : Operand} {fs cs : Array Value} {args : Array Operand} {ats : Array TypeId} {vs ws : List Value} {Q : Value → PH → List Res → Prop}
    (ho : ops[i]? = some { dst := some d, op := .call { callee := .value x, args := args, argTypes := ats }, type := ty, pos := ps, after := af, guard := gd }) (hw : wantedA A ops gd = some true) (hn : Nat.blt d C.n = true)
    (hx : ev A x = some (.func (.func f) fs cs)) (hargs : evs A args.toList = some vs) (hws : fs.toList ++ vs ++ cs.toList = ws) (hok : CallOk C.P f) (hc : Ctr C.P f ws C.O H Ls Q)
    (g : ∀ v H' L', H.le H' → Q v H' L' → G C H' ((d, v) :: A) L' (.inRegion ops rest :: k)) : G C H A Ls (.inRegion ops (i :: rest) :: k) := by
  intro a w ha hs
  have e : fs ++ vs.toArray ++ cs = ws.toArray := by rw [← hws]; apply Array.ext'; simp
  refine Goes.opE ho (wanted_of ha hw) (by rw [callVW hx hargs hok ha w, e]) ?_
  refine (hc w hs).mono ?_
  rintro e w' ⟨v, H', L', rfl, hle, hq, hst⟩
  exact ⟨v, rfl, g v H' L' hle hq _ w' (ha.put (by simpa [Nat.blt_eq] using hn) _) hst⟩
theorem St.osSl {α : Type} {w O : World} {j : Nat} {t : TypeId} {df : Kd α} {B : Option Addr} {c : Nat} {xs : List α} (s : St w O H Ls) (e : nthR Ls j = some (OS t df B c xs)) : SlR df (ph w) B c xs := by
  obtain ⟨h, r, hle⟩ := s.nth e
  exact OS.slR r s.ro hle
theorem St.srcO {w O : World} {j : Nat} {t : TypeId} {B : Option Addr} {c : Nat} {s : Str} (st : St w O H Ls) (e : nthR Ls j = some (OS t Kd.u8 B c s)) : ∃ cs, Rows Kd.u8 H s cs ∧ ((s = [] ∧ cs = []) ∨ ∃ a, B = some a ∧ a.spot = none ∧ w.rangeAt a.block a.off cs) := by
  obtain ⟨h, r, hle⟩ := st.nth e
  exact OS.range r hle
theorem St.srcR {w O : World} {B : Option Addr} {c : Nat} {s : Str} (st : St w O H Ls) (h : SlR Kd.u8 H B c s) : ∃ cs, Rows Kd.u8 H s cs ∧ ((s = [] ∧ cs = []) ∨ ∃ a, B = some a ∧ a.spot = none ∧ w.rangeAt a.block a.off cs) := h.range st
/-! ### Structs -/
theorem fill_step {place : Nat → Option (Nat × Nat)} {j off sz : Nat} {v : Value} {cs p c r : List Value} {pvs : List (Nat × Value)} (hp : place j = some (off, sz)) (hv : v.cells = cs.toArray) (hl : cs.length = sz) (hc : c.length = sz) (ho : p.length = off) :
    Instr.fill place (p ++ c ++ r).toArray ((j, v) :: pvs) = Instr.fill place (p ++ cs ++ r).toArray pvs := by
  have hs : (v.cells.size ≠ sz || off + v.cells.size > (p ++ c ++ r).toArray.size) = false := by
    simp [hv, hl, ho, hc]
  have hfold : ∀ (cs p c r : List Value) (s o : Nat), c.length = cs.length → p.length = o + s → (cs.zipIdx s).foldl (fun (acc : Array Value) (x : Value × Nat) => acc.setIfInBounds (o + x.2) x.1) (p ++ c ++ r).toArray = (p ++ cs ++ r).toArray := by
    intro cs
    induction cs with
    | nil => intro p c r s o hlen _; have : c = [] := List.eq_nil_of_length_eq_zero hlen; subst this; simp
    | cons u cs ih =>
      intro p c r s o hlen hps
      match c, hlen with
      | x :: c, hlen =>
        rw [List.zipIdx_cons, List.foldl_cons]
        have e1 : ((p ++ x :: c ++ r).toArray.setIfInBounds (o + s) u) = ((p ++ [u]) ++ c ++ r).toArray := by
          rw [← hps, List.append_assoc, List.cons_append, List.setIfInBounds_toArray, set_mid]
          simp
        simp only [e1]
        rw [show ((p ++ u :: cs ++ r).toArray : Array Value) = ((p ++ [u]) ++ cs ++ r).toArray by simp]
        exact ih (p ++ [u]) c r (s + 1) o (by simpa using hlen) (by simp; omega)
  have this := hfold cs p c r 0 off (by omega) (by omega)
  simp only [Instr.fill, hp, hs]
  have e2 : v.cells.zipIdx.foldl (fun (cs : Array Value) (x : Value × Nat) => cs.setIfInBounds (off + x.2) x.1) (p ++ c ++ r).toArray = (p ++ cs ++ r).toArray := by
    rw [hv, ← this]
    simp [← Array.foldl_toList]
  simp only [Bool.false_eq_true, if_false]
  rw [← e2]
theorem G.build {t : TypeId} {fs : Array Field} {parts : Array (Nat × Operand)} {pvs : List (Nat × Value)} {z : Value} {cs : List Value} {pl : List (Nat × Nat)} (ho : ops[i]? = some { dst := some d, op := .build t parts, type := ty, pos := ps, after := af, guard := gd }) (hw : wantedA A ops gd = some true) (hn : Nat.blt d C.n = true)
    (ht : C.P.underlying t = some (.struct fs)) (hz : (C.P.info? t).bind (·.zero) = some z) (hp : evPs A parts.toList = some pvs) (hpl : fs.toList.map (fun f => (f.offset, C.P.cellsOf f.type)) = pl) (hpi : fs.toList.all (fun f => (C.P.info? f.type).isSome) = true)
    (hfill : Instr.fill (fun j => pl[j]?) z.cells pvs = some cs.toArray)
    (g : G C H ((d, .agg cs.toArray) :: A) Ls (.inRegion ops rest :: k)) : G C H A Ls (.inRegion ops (i :: rest) :: k) :=
  G.val ho hw rfl hn (fun a w ha _ => by
    have hpe : parts.map (fun (x : Nat × Operand) => (x.1, a.eval x.2)) = pvs.toArray := by
      rw [← ha.evPs hp]; exact (List.map_toArray ..).symm ▸ rfl
    have hz' : (zeroValue t).run C.P w = .ok z w := by
      cases hq : C.P.info? t with
      | none => simp [hq] at hz
      | some ii => simp [hq] at hz; simp [zeroValue, typeInfo, hq, hz]
    have hplaces : ∀ l : List Field, l.all (fun f => (C.P.info? f.type).isSome) = true → (l.mapM (m := Sem) (fun f => do pure (f.offset, ← sizeOf f.type))).run C.P w = .ok (l.map (fun f => (f.offset, C.P.cellsOf f.type))) w := by
      intro l
      induction l with
      | nil => intro _; rfl
      | cons f l ih =>
        intro hl
        simp only [List.all_cons, Bool.and_eq_true] at hl
        obtain ⟨h1, h2⟩ := hl
        cases hq : C.P.info? f.type with
        | none => rw [hq] at h1; cases h1
        | some ii =>
          rw [List.mapM_cons]
          have hsz : (sizeOf f.type).run C.P w = .ok ii.size w := run_sizeOf (by simp [hq]) w
          simp only [Sem.run_bind, hsz, Result.andThen_ok, Sem.run_pure, ih h2, List.map_cons, Program.cellsOf, hq, Option.map_some, Option.getD_some]
    have hpl' : (fs.mapM (m := Sem) (fun f => do pure (f.offset, ← sizeOf f.type))).run C.P w = .ok pl.toArray w := by
      have := hplaces fs.toList hpi
      rw [hpl] at this
      rw [← Array.toArray_toList (xs := fs), List.mapM_toArray, Sem.run_map, this]
      rfl
    have hpe' : (parts.map fun x => match x with | (i, x) => (i, a.eval x)) = pvs.toArray := hpe
    simp only [execOp, Instr.build, Sem.run_bind, hz', Result.andThen_ok, run_underlying ht]
    rw [hpe']
    simp only [Sem.run_bind, hpl', Result.andThen_ok]
    have : (fun (x : Nat) => (pl.toArray : Array (Nat × Nat))[x]?) = fun (j : Nat) => pl[j]? := by funext j; simp
    rw [this, hfill]
    rfl) g
/-- a field of a struct that is a value -/
theorem G.fieldV {α β : Type} {dk : Kd α} {df : Kd β} {get : α → β} {set : α → β → α} {y : α} {x : Operand} {t : TypeId} {j : Nat} {fs : Array Field} {f : Field} {cs : List Value} (ho : ops[i]? = some { dst := some d, op := .field t x j, type := ty, pos := ps, after := af, guard := gd }) (hw : wantedA A ops gd = some true) (hn : Nat.blt d C.n = true)
    (hx : ev A x = some (.agg cs.toArray)) (ht : C.P.underlying t = some (.struct fs)) (hf : fs[j]? = some f) (hty : TyOk C.P f.type df) (hR : dk.R H y cs) (l : Lens dk f.offset df get set y)
    (g : ∀ c, df.R H (get y) c → G C H ((d, df.val c) :: A) Ls (.inRegion ops rest :: k)) : G C H A Ls (.inRegion ops (i :: rest) :: k) := by
  obtain ⟨p, c, r, rfl, hp, hc, _⟩ := l.get_ hR
  refine G.val ho hw rfl hn (fun a w ha _ => ?_) (g c hc)
  obtain ⟨ds, hu, hrow⟩ := hty.und
  have hlen := df.len hc
  simp only [execOp, ha.eval hx, Instr.field, Sem.run_bind, run_underlying ht, Result.andThen_ok, hf, asAgg, Sem.run_pure, part]
  unfold Kd.val
  cases hg : df.agg with
  | true =>
    rw [hg] at hrow
    have hagg : (isAgg f.type).run C.P w = .ok true w := by
      unfold isAgg
      rw [Sem.run_bind, run_underlying hu w]
      cases ds <;> first | rfl | cases hrow
    have he : ((p ++ c ++ r).toArray.extract f.offset (f.offset + df.sz)) = c.toArray := by
      rw [← hp, ← hlen]
      apply Array.ext'
      simp
    simp only [hagg, Result.andThen_ok, if_true, Sem.run_bind, run_sizeOf hty.size, Sem.run_pure, he]
  | false =>
    rw [hg] at hrow
    have hagg : (isAgg f.type).run C.P w = .ok false w := by
      unfold isAgg
      rw [Sem.run_bind, run_underlying hu w]
      cases ds <;> first | rfl | cases hrow
    rw [df.flat hg] at hlen
    match c, hlen with
    | [u], _ =>
      have he : (p ++ [u] ++ r).toArray[f.offset]? = some u := by
        rw [← hp]; simp
      simp only [hagg, Result.andThen_ok, Bool.false_eq_true, if_false, he, Sem.run_pure]
      rfl
end
end Go.Proofs.Ytpffemcpfddjbaa.K
