/- The judgement 'G': calls walked into, calls that borrow, results in variables, values behind interfaces (own text). -/
import Derived.Test.YtpffemcpfddjbaaMemB
namespace Go.Proofs.Ytpffemcpfddjbaa.K
open Go
/-- as many rounds as anything takes -/
def FUEL : Nat := 18446744073709551616
theorem FUEL_succ : FUEL = 18446744073709551615 + 1 := rfl
attribute [irreducible] FUEL
theorem FUEL_val : FUEL = 18446744073709551616 := by unfold FUEL; rfl
/-! ### The order of resources -/
def pick : Nat → List Res → Option (Res × List Res)
  | 0, r :: L => some (r, L)
  | n + 1, r :: L => match pick n L with
    | some (x, M) => some (x, r :: M)
    | none => none
  | _, [] => none
theorem Sats.pick {H : PH} : ∀ {n : Nat} {L M : List Res} {r : Res} {h : PH}, pick n L = some (r, M) → Sats H L h → Sats H (r :: M) h
  | 0, _ :: _, _, _, _, e, s => by
    simp only [K.pick, Option.some.injEq, Prod.mk.injEq] at e
    obtain ⟨rfl, rfl⟩ := e
    exact s
  | n + 1, a :: L, M, r, h, e, s => by
    simp only [K.pick] at e
    split at e
    · rename_i x M' he
      simp only [Option.some.injEq, Prod.mk.injEq] at e
      obtain ⟨rfl, rfl⟩ := e
      exact Sats.swap (Sats.cons (fun _ s => Sats.pick he s) s)
    · cases e
  | 0, [], _, _, _, e, _ => by cases e
  | _ + 1, [], _, _, _, e, _ => by cases e
section
variable {C : Cx} {H : PH} {A : List (Nat × Value)} {Ls L M : List Res} {k : List Item}
theorem G.frontAt (n : Nat) {r : Res} (e : pick n Ls = some (r, M)) (g : G C H A (r :: M) k) : G C H A Ls k := g.map fun _ s => Sats.pick e s
theorem St.dropAt {w O : World} (s : St w O H L) (n : Nat) {r : Res} (e : pick n L = some (r, M)) : St w O H M := St.drop (s.map fun _ s => Sats.pick e s)
end
def putA : Option Nat → Value → List (Nat × Value) → List (Nat × Value)
  | none, _, A => A
  | some d, v, A => (d, v) :: A
def dOk (n : Nat) : Option Nat → Bool
  | none => true
  | some d => Nat.blt d n
theorem Slots.putD {n : Nat} {a : Act} {A : List (Nat × Value)} (h : Slots n a A) {dst : Option Nat} (hd : dOk n dst = true) (v : Value) : Slots n (a.put dst v) (putA dst v A) := by
  cases dst with
  | none => exact h
  | some d => exact h.put (by simpa [dOk, Nat.blt_eq] using hd) v
theorem Slots.begin {args : List Value} {n m : Nat} {A : List (Nat × Value)} (hm : m = n) (hA : idx 0 args = A) (hl : Nat.ble args.length n = true) :
    Slots n { tmps := args.toArray ++ Array.replicate (m - args.toArray.size) undef, defers := [] } A := by
  have hl' := Nat.le_of_ble_eq_true hl
  refine ⟨?_, rfl, fun i v hv => ?_⟩
  · simp [hm]; omega
  · subst hA
    obtain ⟨j, rfl, hj⟩ := idx_look hv
    have hjl : j < args.length := (List.getElem?_eq_some_iff.1 hj).1
    refine ⟨show 0 + j < n by omega, ?_⟩
    simp only [Nat.zero_add, Array.getD_eq_getD_getElem?]
    rw [Array.getElem?_append_left (by simpa using hjl)]
    simp [hj]
section
variable {C : Cx} {H : PH} {A : List (Nat × Value)} {Ls L M : List Res} {k : List Item}
variable {ops : Array Oper} {i : Nat} {rest : List Nat} {dst : Option Nat} {d : Nat} {ty : TypeId} {ps : String} {af : Array Edge} {gd : Option (Nat × Bool)}
/-- A call that is walked into. -/
theorem G.inlD {f' : FuncId} {fn' : Func} {c : Code} {args : Array Operand} {ats : Array TypeId} {vs : List Value} {n' : Nat} {A' : List (Nat × Value)}
    (ho : ops[i]? = some { dst := dst, op := .call { callee := .value (.func f'), args := args, argTypes := ats }, type := ty, pos := ps, after := af, guard := gd }) (hw : wantedA A ops gd = some true) (hn : dOk C.n dst = true)
    (hargs : evs A args.toList = some vs) (hok : CallOk C.P f') (hf : C.P.funcs[f']? = some fn') (hb : fn'.body = some c) (hnt : fn'.ntmps = n') (hA : idx 0 vs = A') (hl : Nat.ble vs.length n' = true)
    (g : ∀ R', (∀ H' v L', G C H' (putA dst v A) L' (.inRegion ops rest :: k) → ∀ w, St w C.O H' L' → R' (.returned v) w) → G ⟨C.P, f', fn', R', C.O, n', .plain⟩ H A' Ls [.code c]) : G C H A Ls (.inRegion ops (i :: rest) :: k) := by
  intro a w ha hs
  refine Goes.opE ho (wanted_of ha hw) (callW hargs hok ha w) ?_
  refine Goes.calls hf hb ?_
  exact g _ (fun H' v L' gg w hst => ⟨v, rfl, gg _ w (ha.putD hn v) hst⟩) _ w (Slots.begin hnt hA hl) hs
theorem G.inl {f' : FuncId} {fn' : Func} {c : Code} {args : Array Operand} {ats : Array TypeId} {vs : List Value} {n' : Nat} {A' : List (Nat × Value)}
    (ho : ops[i]? = some { dst := some d, op := .call { callee := .value (.func f'), args := args, argTypes := ats }, type := ty, pos := ps, after := af, guard := gd }) (hw : wantedA A ops gd = some true) (hn : Nat.blt d C.n = true)
    (hargs : evs A args.toList = some vs) (hok : CallOk C.P f') (hf : C.P.funcs[f']? = some fn') (hb : fn'.body = some c) (hnt : fn'.ntmps = n') (hA : idx 0 vs = A') (hl : Nat.ble vs.length n' = true)
    (g : ∀ R', (∀ H' v L', G C H' ((d, v) :: A) L' (.inRegion ops rest :: k) → ∀ w, St w C.O H' L' → R' (.returned v) w) → G ⟨C.P, f', fn', R', C.O, n', .plain⟩ H A' Ls [.code c]) : G C H A Ls (.inRegion ops (i :: rest) :: k) :=
  G.inlD ho hw hn hargs hok hf hb hnt hA hl g
theorem G.inl0 {f' : FuncId} {fn' : Func} {c : Code} {args : Array Operand} {ats : Array TypeId} {vs : List Value} {n' : Nat} {A' : List (Nat × Value)}
    (ho : ops[i]? = some { dst := none, op := .call { callee := .value (.func f'), args := args, argTypes := ats }, type := ty, pos := ps, after := af, guard := gd }) (hw : wantedA A ops gd = some true)
    (hargs : evs A args.toList = some vs) (hok : CallOk C.P f') (hf : C.P.funcs[f']? = some fn') (hb : fn'.body = some c) (hnt : fn'.ntmps = n') (hA : idx 0 vs = A') (hl : Nat.ble vs.length n' = true)
    (g : ∀ R', (∀ H' v L', G C H' A L' (.inRegion ops rest :: k) → ∀ w, St w C.O H' L' → R' (.returned v) w) → G ⟨C.P, f', fn', R', C.O, n', .plain⟩ H A' Ls [.code c]) : G C H A Ls (.inRegion ops (i :: rest) :: k) :=
  G.inlD ho hw rfl hargs hok hf hb hnt hA hl g
theorem callVW' {f : FuncId} {x : Operand} {fs cs : Array Value} {args : Array Operand} {ats : Array TypeId} {vs ws : List Value} (hx : ev A x = some (.func (.func f) fs cs)) (hargs : evs A args.toList = some vs) (hws : fs.toList ++ vs ++ cs.toList = ws) (hok : CallOk C.P f) {a : Act} (ha : Slots C.n a A) (w : World) :
    (execOp a.eval { dst := dst, op := .call { callee := .value x, args := args, argTypes := ats }, type := ty, pos := ps, after := af, guard := gd }).run C.P w = .ok (.enter f ws.toArray) w := by
  have e : fs ++ vs.toArray ++ cs = ws.toArray := by rw [← hws]; apply Array.ext'; simp
  rw [callVW hx hargs hok ha w, e]
theorem G.inlVD {f' : FuncId} {fn' : Func} {c : Code} {x : Operand} {fs cs : Array Value} {args : Array Operand} {ats : Array TypeId} {vs ws : List Value} {n' : Nat} {A' : List (Nat × Value)}
    (ho : ops[i]? = some { dst := dst, op := .call { callee := .value x, args := args, argTypes := ats }, type := ty, pos := ps, after := af, guard := gd }) (hw : wantedA A ops gd = some true) (hn : dOk C.n dst = true)
    (hx : ev A x = some (.func (.func f') fs cs)) (hargs : evs A args.toList = some vs) (hws : fs.toList ++ vs ++ cs.toList = ws) (hok : CallOk C.P f') (hf : C.P.funcs[f']? = some fn') (hb : fn'.body = some c) (hnt : fn'.ntmps = n') (hA : idx 0 ws = A') (hl : Nat.ble ws.length n' = true)
    (g : ∀ R', (∀ H' v L', G C H' (putA dst v A) L' (.inRegion ops rest :: k) → ∀ w, St w C.O H' L' → R' (.returned v) w) → G ⟨C.P, f', fn', R', C.O, n', .plain⟩ H A' Ls [.code c]) : G C H A Ls (.inRegion ops (i :: rest) :: k) := by
  intro a w ha hs
  refine Goes.opE ho (wanted_of ha hw) (callVW' hx hargs hws hok ha w) ?_
  refine Goes.calls hf hb ?_
  exact g _ (fun H' v L' gg w hst => ⟨v, rfl, gg _ w (ha.putD hn v) hst⟩) _ w (Slots.begin hnt hA hl) hs
theorem G.inlV {f' : FuncId} {fn' : Func} {c : Code} {x : Operand} {fs cs : Array Value} {args : Array Operand} {ats : Array TypeId} {vs ws : List Value} {n' : Nat} {A' : List (Nat × Value)}
    (ho : ops[i]? = some { dst := some d, op := .call { callee := .value x, args := args, argTypes := ats }, type := ty, pos := ps, after := af, guard := gd }) (hw : wantedA A ops gd = some true) (hn : Nat.blt d C.n = true)
    (hx : ev A x = some (.func (.func f') fs cs)) (hargs : evs A args.toList = some vs) (hws : fs.toList ++ vs ++ cs.toList = ws) (hok : CallOk C.P f') (hf : C.P.funcs[f']? = some fn') (hb : fn'.body = some c) (hnt : fn'.ntmps = n') (hA : idx 0 ws = A') (hl : Nat.ble ws.length n' = true)
    (g : ∀ R', (∀ H' v L', G C H' ((d, v) :: A) L' (.inRegion ops rest :: k) → ∀ w, St w C.O H' L' → R' (.returned v) w) → G ⟨C.P, f', fn', R', C.O, n', .plain⟩ H A' Ls [.code c]) : G C H A Ls (.inRegion ops (i :: rest) :: k) :=
  G.inlVD ho hw hn hx hargs hws hok hf hb hnt hA hl g
theorem G.inlV0 {f' : FuncId} {fn' : Func} {c : Code} {x : Operand} {fs cs : Array Value} {args : Array Operand} {ats : Array TypeId} {vs ws : List Value} {n' : Nat} {A' : List (Nat × Value)}
    (ho : ops[i]? = some { dst := none, op := .call { callee := .value x, args := args, argTypes := ats }, type := ty, pos := ps, after := af, guard := gd }) (hw : wantedA A ops gd = some true)
    (hx : ev A x = some (.func (.func f') fs cs)) (hargs : evs A args.toList = some vs) (hws : fs.toList ++ vs ++ cs.toList = ws) (hok : CallOk C.P f') (hf : C.P.funcs[f']? = some fn') (hb : fn'.body = some c) (hnt : fn'.ntmps = n') (hA : idx 0 ws = A') (hl : Nat.ble ws.length n' = true)
    (g : ∀ R', (∀ H' v L', G C H' A L' (.inRegion ops rest :: k) → ∀ w, St w C.O H' L' → R' (.returned v) w) → G ⟨C.P, f', fn', R', C.O, n', .plain⟩ H A' Ls [.code c]) : G C H A Ls (.inRegion ops (i :: rest) :: k) :=
  G.inlVD ho hw rfl hx hargs hws hok hf hb hnt hA hl g
/-! ### Calls by contract, whatever becomes of the result -/
theorem G.callE {f : FuncId} {o : Oper} {ws : List Value} {Q : Value → PH → List Res → Prop}
    (ho : ops[i]? = some o) (hw : wantedA A ops o.guard = some true) (hn : dOk C.n o.dst = true) (he : ∀ a w, Slots C.n a A → (execOp a.eval o).run C.P w = .ok (.enter f ws.toArray) w) (hc : Ctr C.P f ws C.O H Ls Q)
    (g : ∀ v H' L', H.le H' → Q v H' L' → G C H' (putA o.dst v A) L' (.inRegion ops rest :: k)) : G C H A Ls (.inRegion ops (i :: rest) :: k) := by
  intro a w ha hs
  refine Goes.opE ho (wanted_of ha hw) (he a w ha) ?_
  refine (hc w hs).mono ?_
  rintro e w' ⟨v, H', L', rfl, hle, hq, hst⟩
  exact ⟨v, rfl, g v H' L' hle hq _ w' (ha.putD hn _) hst⟩
theorem G.callSE {f : FuncId} {o : Oper} {ws : List Value} {Q : Value → List Res → Prop}
    (ho : ops[i]? = some o) (hw : wantedA A ops o.guard = some true) (hn : dOk C.n o.dst = true) (he : ∀ a w, Slots C.n a A → (execOp a.eval o).run C.P w = .ok (.enter f ws.toArray) w) (hc : CtrS C.P f ws C.O H Ls Q)
    (g : ∀ v L', Q v L' → G C H (putA o.dst v A) L' (.inRegion ops rest :: k)) : G C H A Ls (.inRegion ops (i :: rest) :: k) := by
  intro a w ha hs
  refine Goes.opE ho (wanted_of ha hw) (he a w ha) ?_
  refine (hc w hs).mono ?_
  rintro e w' ⟨v, L', rfl, hq, hst⟩
  exact ⟨v, rfl, g v L' hq _ w' (ha.putD hn _) hst⟩
def parted : Nat → List Res → Option (List Res × List Res)
  | 0, L => some ([], L)
  | n + 1, r :: L => match parted n L with
    | some (x, M) => some (r :: x, M)
    | none => none
  | _ + 1, [] => none
theorem parted_eq : ∀ {n : Nat} {L X M : List Res}, parted n L = some (X, M) → L = X ++ M
  | 0, L, X, M, e => by simp only [parted, Option.some.injEq, Prod.mk.injEq] at e; obtain ⟨rfl, rfl⟩ := e; rfl
  | n + 1, r :: L, X, M, e => by
    simp only [parted] at e
    split at e
    · rename_i x M' he
      simp only [Option.some.injEq, Prod.mk.injEq] at e
      obtain ⟨rfl, rfl⟩ := e
      rw [parted_eq he]; rfl
    · cases e
  | _ + 1, [], _, _, e => by cases e
theorem Sats.split {H : PH} : ∀ {X M : List Res} {h : PH}, Sats H (X ++ M) h → ∃ h1 h2, PH.disj h1 h2 ∧ h = PH.un h1 h2 ∧ Sats H X h1 ∧ Sats H M h2
  | [], M, h, s => ⟨PH.emp, h, PH.emp_disj _, (PH.emp_un _).symm, rfl, s⟩
  | r :: X, M, h, ⟨h1, h2, d, u, a, s⟩ => by
    obtain ⟨k1, k2, d', rfl, s1, s2⟩ := Sats.split s
    rw [PH.disj_un] at d
    exact ⟨h1.un k1, k2, PH.un_disj.2 ⟨d.2, d'⟩, by rw [u, PH.un_assoc], ⟨h1, k1, d.1, rfl, a, s1⟩, s2⟩
/-- A call of whoever keeps nothing: what it is not given may be read by it. -/
theorem G.callBOE {f : FuncId} {o : Oper} {ws : List Value} {Q : Value → PH → List Res → Prop} {m : Nat} {Lo Lr : List Res}
    (ho : ops[i]? = some o) (hw : wantedA A ops o.guard = some true) (hn : dOk C.n o.dst = true) (he : ∀ a w, Slots C.n a A → (execOp a.eval o).run C.P w = .ok (.enter f ws.toArray) w) (hsp : parted m Ls = some (Lo, Lr))
    (hc : ∀ H1, H.le H1 → (∀ {α : Type} {j : Nat} {t : TypeId} {df : Kd α} {B : Option Addr} {c : Nat} {xs : List α}, nthR Lr j = some (OS t df B c xs) → SlR df H1 B c xs) → Ctr C.P f ws C.O H1 Lo Q) (hfree : ∀ v H' L', Q v H' L' → Free L')
    (g : ∀ v L', (∃ H', Q v H' L') → G C H (putA o.dst v A) (L' ++ Lr) (.inRegion ops rest :: k)) : G C H A Ls (.inRegion ops (i :: rest) :: k) := by
  intro a w ha hs
  refine Goes.opE ho (wanted_of ha hw) (he a w ha) ?_
  have e := parted_eq hsp
  subst e
  obtain ⟨h, a0, dd, b, c⟩ := hs.heap
  obtain ⟨h1, h2, d12, rfl, s1, s2⟩ := Sats.split a0
  rw [PH.disj_un] at dd
  have hle : H.le (H.un h2) := PH.le_un_left _ _
  have hst : St w C.O (H.un h2) Lo := ⟨⟨h1, s1.mono hle, PH.un_disj.2 ⟨dd.1, PH.disj_symm d12⟩, PH.un_le b (PH.le_trans (PH.le_un_right d12) c), PH.le_trans (PH.le_un_left _ _) c⟩, hs.os, hs.tape, hs.output⟩
  have hsl : ∀ {α : Type} {j : Nat} {t : TypeId} {df : Kd α} {B : Option Addr} {c : Nat} {xs : List α}, nthR Lr j = some (OS t df B c xs) → SlR df (H.un h2) B c xs := fun hj => by
    obtain ⟨h', r, hl⟩ := Sats.nth s2 hj
    exact OS.slR r hle (PH.le_trans hl (PH.le_un_right dd.2))
  refine (hc _ hle hsl w hst).mono ?_
  rintro e w' ⟨v, H', L', rfl, hle', hq, hst'⟩
  obtain ⟨h', a', d', b', c'⟩ := hst'.heap
  have k1 : PH.disj h' h2 := PH.disj_symm (PH.disj_le d' (PH.le_trans (PH.le_un_right dd.2) hle'))
  have k2 : PH.disj H h' := PH.disj_le d' (PH.le_trans hle hle')
  refine ⟨v, rfl, g v L' ⟨H', hq⟩ _ w' (ha.putD hn _) ⟨⟨h'.un h2, Sats.append k1 (Sats.free (hfree v H' L' hq) a') s2, PH.disj_un.2 ⟨k2, dd.2⟩, PH.le_trans hle (PH.le_trans hle' b'), PH.un_le c' (PH.le_trans (PH.le_un_right dd.2) (PH.le_trans hle' b'))⟩, hst'.os, hst'.tape, hst'.output⟩⟩
theorem G.callX {f : FuncId} {args : Array Operand} {ats : Array TypeId} {ws : List Value} {Q : Value → PH → List Res → Prop} (ho : ops[i]? = some { dst := some d, op := .call { callee := .value (.func f), args := args, argTypes := ats }, type := ty, pos := ps, after := af, guard := gd }) (hw : wantedA A ops gd = some true) (hn : Nat.blt d C.n = true) (hargs : evs A args.toList = some ws) (hok : CallOk C.P f) (hc : Ctr C.P f ws C.O H Ls Q)
    (g : ∀ v H' L', H.le H' → Q v H' L' → G C H' ((d, v) :: A) L' (.inRegion ops rest :: k)) : G C H A Ls (.inRegion ops (i :: rest) :: k) := G.callE ho hw hn (fun a w ha => callW hargs hok ha w) hc g
theorem G.callSX {f : FuncId} {args : Array Operand} {ats : Array TypeId} {ws : List Value} {Q : Value → List Res → Prop} (ho : ops[i]? = some { dst := some d, op := .call { callee := .value (.func f), args := args, argTypes := ats }, type := ty, pos := ps, after := af, guard := gd }) (hw : wantedA A ops gd = some true) (hn : Nat.blt d C.n = true) (hargs : evs A args.toList = some ws) (hok : CallOk C.P f) (hc : CtrS C.P f ws C.O H Ls Q)
    (g : ∀ v L', Q v L' → G C H ((d, v) :: A) L' (.inRegion ops rest :: k)) : G C H A Ls (.inRegion ops (i :: rest) :: k) := G.callSE ho hw hn (fun a w ha => callW hargs hok ha w) hc g
theorem G.callBO {f : FuncId} {args : Array Operand} {ats : Array TypeId} {ws : List Value} {Q : Value → PH → List Res → Prop} {m : Nat} {Lo Lr : List Res} (ho : ops[i]? = some { dst := some d, op := .call { callee := .value (.func f), args := args, argTypes := ats }, type := ty, pos := ps, after := af, guard := gd }) (hw : wantedA A ops gd = some true) (hn : Nat.blt d C.n = true) (hargs : evs A args.toList = some ws) (hok : CallOk C.P f) (hsp : parted m Ls = some (Lo, Lr))
    (hc : ∀ H1, H.le H1 → (∀ {α : Type} {j : Nat} {t : TypeId} {df : Kd α} {B : Option Addr} {c : Nat} {xs : List α}, nthR Lr j = some (OS t df B c xs) → SlR df H1 B c xs) → Ctr C.P f ws C.O H1 Lo Q) (hfree : ∀ v H' L', Q v H' L' → Free L')
    (g : ∀ v L', (∃ H', Q v H' L') → G C H ((d, v) :: A) (L' ++ Lr) (.inRegion ops rest :: k)) : G C H A Ls (.inRegion ops (i :: rest) :: k) := G.callBOE ho hw hn (fun a w ha => callW hargs hok ha w) hsp hc hfree g
theorem G.call0 {f : FuncId} {args : Array Operand} {ats : Array TypeId} {ws : List Value} {Q : Value → PH → List Res → Prop} (ho : ops[i]? = some { dst := none, op := .call { callee := .value (.func f), args := args, argTypes := ats }, type := ty, pos := ps, after := af, guard := gd }) (hw : wantedA A ops gd = some true) (hargs : evs A args.toList = some ws) (hok : CallOk C.P f) (hc : Ctr C.P f ws C.O H Ls Q)
    (g : ∀ v H' L', H.le H' → Q v H' L' → G C H' A L' (.inRegion ops rest :: k)) : G C H A Ls (.inRegion ops (i :: rest) :: k) := G.callE ho hw rfl (fun a w ha => callW hargs hok ha w) hc g
theorem G.callS0 {f : FuncId} {args : Array Operand} {ats : Array TypeId} {ws : List Value} {Q : Value → List Res → Prop} (ho : ops[i]? = some { dst := none, op := .call { callee := .value (.func f), args := args, argTypes := ats }, type := ty, pos := ps, after := af, guard := gd }) (hw : wantedA A ops gd = some true) (hargs : evs A args.toList = some ws) (hok : CallOk C.P f) (hc : CtrS C.P f ws C.O H Ls Q)
    (g : ∀ v L', Q v L' → G C H A L' (.inRegion ops rest :: k)) : G C H A Ls (.inRegion ops (i :: rest) :: k) := G.callSE ho hw rfl (fun a w ha => callW hargs hok ha w) hc g
theorem G.callBO0 {f : FuncId} {args : Array Operand} {ats : Array TypeId} {ws : List Value} {Q : Value → PH → List Res → Prop} {m : Nat} {Lo Lr : List Res} (ho : ops[i]? = some { dst := none, op := .call { callee := .value (.func f), args := args, argTypes := ats }, type := ty, pos := ps, after := af, guard := gd }) (hw : wantedA A ops gd = some true) (hargs : evs A args.toList = some ws) (hok : CallOk C.P f) (hsp : parted m Ls = some (Lo, Lr))
    (hc : ∀ H1, H.le H1 → (∀ {α : Type} {j : Nat} {t : TypeId} {df : Kd α} {B : Option Addr} {c : Nat} {xs : List α}, nthR Lr j = some (OS t df B c xs) → SlR df H1 B c xs) → Ctr C.P f ws C.O H1 Lo Q) (hfree : ∀ v H' L', Q v H' L' → Free L')
    (g : ∀ v L', (∃ H', Q v H' L') → G C H A (L' ++ Lr) (.inRegion ops rest :: k)) : G C H A Ls (.inRegion ops (i :: rest) :: k) := G.callBOE ho hw rfl (fun a w ha => callW hargs hok ha w) hsp hc hfree g
theorem G.callVX {f : FuncId} {x : Operand} {fs cs : Array Value} {args : Array Operand} {ats : Array TypeId} {vs ws : List Value} {Q : Value → PH → List Res → Prop} (ho : ops[i]? = some { dst := some d, op := .call { callee := .value x, args := args, argTypes := ats }, type := ty, pos := ps, after := af, guard := gd }) (hw : wantedA A ops gd = some true) (hn : Nat.blt d C.n = true) (hx : ev A x = some (.func (.func f) fs cs)) (hargs : evs A args.toList = some vs) (hws : fs.toList ++ vs ++ cs.toList = ws) (hok : CallOk C.P f) (hc : Ctr C.P f ws C.O H Ls Q)
    (g : ∀ v H' L', H.le H' → Q v H' L' → G C H' ((d, v) :: A) L' (.inRegion ops rest :: k)) : G C H A Ls (.inRegion ops (i :: rest) :: k) := G.callE ho hw hn (fun a w ha => callVW' hx hargs hws hok ha w) hc g
theorem G.callSV {f : FuncId} {x : Operand} {fs cs : Array Value} {args : Array Operand} {ats : Array TypeId} {vs ws : List Value} {Q : Value → List Res → Prop} (ho : ops[i]? = some { dst := some d, op := .call { callee := .value x, args := args, argTypes := ats }, type := ty, pos := ps, after := af, guard := gd }) (hw : wantedA A ops gd = some true) (hn : Nat.blt d C.n = true) (hx : ev A x = some (.func (.func f) fs cs)) (hargs : evs A args.toList = some vs) (hws : fs.toList ++ vs ++ cs.toList = ws) (hok : CallOk C.P f) (hc : CtrS C.P f ws C.O H Ls Q)
    (g : ∀ v L', Q v L' → G C H ((d, v) :: A) L' (.inRegion ops rest :: k)) : G C H A Ls (.inRegion ops (i :: rest) :: k) := G.callSE ho hw hn (fun a w ha => callVW' hx hargs hws hok ha w) hc g
theorem G.callBOV {f : FuncId} {x : Operand} {fs cs : Array Value} {args : Array Operand} {ats : Array TypeId} {vs ws : List Value} {Q : Value → PH → List Res → Prop} {m : Nat} {Lo Lr : List Res} (ho : ops[i]? = some { dst := some d, op := .call { callee := .value x, args := args, argTypes := ats }, type := ty, pos := ps, after := af, guard := gd }) (hw : wantedA A ops gd = some true) (hn : Nat.blt d C.n = true) (hx : ev A x = some (.func (.func f) fs cs)) (hargs : evs A args.toList = some vs) (hws : fs.toList ++ vs ++ cs.toList = ws) (hok : CallOk C.P f) (hsp : parted m Ls = some (Lo, Lr))
    (hc : ∀ H1, H.le H1 → (∀ {α : Type} {j : Nat} {t : TypeId} {df : Kd α} {B : Option Addr} {c : Nat} {xs : List α}, nthR Lr j = some (OS t df B c xs) → SlR df H1 B c xs) → Ctr C.P f ws C.O H1 Lo Q) (hfree : ∀ v H' L', Q v H' L' → Free L')
    (g : ∀ v L', (∃ H', Q v H' L') → G C H ((d, v) :: A) (L' ++ Lr) (.inRegion ops rest :: k)) : G C H A Ls (.inRegion ops (i :: rest) :: k) := G.callBOE ho hw hn (fun a w ha => callVW' hx hargs hws hok ha w) hsp hc hfree g
theorem G.callV0 {f : FuncId} {x : Operand} {fs cs : Array Value} {args : Array Operand} {ats : Array TypeId} {vs ws : List Value} {Q : Value → PH → List Res → Prop} (ho : ops[i]? = some { dst := none, op := .call { callee := .value x, args := args, argTypes := ats }, type := ty, pos := ps, after := af, guard := gd }) (hw : wantedA A ops gd = some true) (hx : ev A x = some (.func (.func f) fs cs)) (hargs : evs A args.toList = some vs) (hws : fs.toList ++ vs ++ cs.toList = ws) (hok : CallOk C.P f) (hc : Ctr C.P f ws C.O H Ls Q)
    (g : ∀ v H' L', H.le H' → Q v H' L' → G C H' A L' (.inRegion ops rest :: k)) : G C H A Ls (.inRegion ops (i :: rest) :: k) := G.callE ho hw rfl (fun a w ha => callVW' hx hargs hws hok ha w) hc g
theorem G.callSV0 {f : FuncId} {x : Operand} {fs cs : Array Value} {args : Array Operand} {ats : Array TypeId} {vs ws : List Value} {Q : Value → List Res → Prop} (ho : ops[i]? = some { dst := none, op := .call { callee := .value x, args := args, argTypes := ats }, type := ty, pos := ps, after := af, guard := gd }) (hw : wantedA A ops gd = some true) (hx : ev A x = some (.func (.func f) fs cs)) (hargs : evs A args.toList = some vs) (hws : fs.toList ++ vs ++ cs.toList = ws) (hok : CallOk C.P f) (hc : CtrS C.P f ws C.O H Ls Q)
    (g : ∀ v L', Q v L' → G C H A L' (.inRegion ops rest :: k)) : G C H A Ls (.inRegion ops (i :: rest) :: k) := G.callSE ho hw rfl (fun a w ha => callVW' hx hargs hws hok ha w) hc g
theorem G.callBOV0 {f : FuncId} {x : Operand} {fs cs : Array Value} {args : Array Operand} {ats : Array TypeId} {vs ws : List Value} {Q : Value → PH → List Res → Prop} {m : Nat} {Lo Lr : List Res} (ho : ops[i]? = some { dst := none, op := .call { callee := .value x, args := args, argTypes := ats }, type := ty, pos := ps, after := af, guard := gd }) (hw : wantedA A ops gd = some true) (hx : ev A x = some (.func (.func f) fs cs)) (hargs : evs A args.toList = some vs) (hws : fs.toList ++ vs ++ cs.toList = ws) (hok : CallOk C.P f) (hsp : parted m Ls = some (Lo, Lr))
    (hc : ∀ H1, H.le H1 → (∀ {α : Type} {j : Nat} {t : TypeId} {df : Kd α} {B : Option Addr} {c : Nat} {xs : List α}, nthR Lr j = some (OS t df B c xs) → SlR df H1 B c xs) → Ctr C.P f ws C.O H1 Lo Q) (hfree : ∀ v H' L', Q v H' L' → Free L')
    (g : ∀ v L', (∃ H', Q v H' L') → G C H A (L' ++ Lr) (.inRegion ops rest :: k)) : G C H A Ls (.inRegion ops (i :: rest) :: k) := G.callBOE ho hw rfl (fun a w ha => callVW' hx hargs hws hok ha w) hsp hc hfree g
end
/-! ### Results in variables -/
inductive RS : Type 1 where
  | val (v : Value)
  | cell {α : Type} (d : Kd α) (y : α)
def RS.ok (H : PH) : List RS → List Value → Prop
  | [], us => us = []
  | .val v :: r, us => ∃ u us', us = u :: us' ∧ u = v ∧ RS.ok H r us'
  | .cell d y :: r, us => ∃ u us', us = u :: us' ∧ (∃ cs, d.R H y cs ∧ u = d.val cs) ∧ RS.ok H r us'
def retV : List Value → Value
  | [v] => v
  | vs => .tuple vs.toArray
theorem retV_eq (vs : List Value) : retV vs = if vs.length = 1 then vs.headD undef else .tuple vs.toArray := by
  match vs with
  | [] => rfl
  | [_] => rfl
  | _ :: _ :: _ => simp [retV]
def RS.src (C : Cx) (H : PH) (A : List (Nat × Value)) (Ls : List Res) : List RS → List ResultVar → Prop
  | [], rs => rs = []
  | .val v :: r, .tmp t :: rs => look A t = some v ∧ RS.src C H A Ls r rs
  | .cell d y :: r, .cell t ty :: rs => (TyOk C.P ty d ∧ ∃ a, look A t = some (.pointer (some a)) ∧ ∀ w, St w C.O H Ls → Rd w H d a y) ∧ RS.src C H A Ls r rs
  | _, _ => False
theorem RS.run {C : Cx} {H : PH} {A : List (Nat × Value)} {Ls : List Res} {b : Act} {w : World} (hb : Slots C.n b A) (hs : St w C.O H Ls) {F : ResultVar → Sem Value} (hF : ∀ t, F (.tmp t) = pure (b.tmps.getD t undef)) (hF2 : ∀ a t, F (.cell a t) = (do loadVar t (← asAddr (b.tmps.getD a undef)))) :
    ∀ {specs : List RS} {rs : List ResultVar}, RS.src C H A Ls specs rs → ∃ us, RS.ok H specs us ∧ Sem.run C.P (rs.mapM F) w = .ok us w
  | [], rs, h => by
    have h' : rs = [] := h
    subst h'
    exact ⟨[], rfl, rfl⟩
  | .val v :: r, .tmp t :: rs, h => by
    obtain ⟨h1, h2⟩ := h
    obtain ⟨us, hu, hr⟩ := RS.run hb hs hF hF2 h2
    refine ⟨v :: us, ⟨v, us, rfl, rfl, hu⟩, ?_⟩
    rw [List.mapM_cons, hF]
    simp only [Sem.run_bind, Sem.run_pure, Result.andThen_ok, (hb.at_ t v h1).2, hr]
  | .cell d y :: r, .cell t ty :: rs, h => by
    obtain ⟨⟨ht, a, h1, hrd⟩, h2⟩ := h
    obtain ⟨us, hu, hr⟩ := RS.run hb hs hF hF2 h2
    obtain ⟨cs, k1, k2⟩ := (hrd w hs).run ht
    have h3 : (loadVar ty a).run C.P w = .ok (d.val cs) w := by simpa [Instr.loadAt, Instr.sureAddr] using k2
    refine ⟨d.val cs :: us, ⟨_, us, rfl, ⟨cs, k1, rfl⟩, hu⟩, ?_⟩
    rw [List.mapM_cons, hF2]
    simp only [Sem.run_bind, (hb.at_ t _ h1).2, asAddr, Sem.run_pure, Result.andThen_ok, h3, hr]
  | .val v :: r, [], h => h.elim
  | .val v :: r, .cell _ _ :: _, h => h.elim
  | .cell _ _ :: r, [], h => h.elim
  | .cell _ _ :: r, .tmp _ :: _, h => h.elim
section
variable {C : Cx} {H : PH} {A : List (Nat × Value)} {Ls L M : List Res} {k : List Item}
theorem RS.results {b : Act} {w : World} {fn : Func} {specs : List RS} {rs : List ResultVar} (hr : fn.results.toList = rs) (hsrc : RS.src C H A Ls specs rs) (hb : Slots C.n b A) (hs : St w C.O H Ls) :
    ∃ us, RS.ok H specs us ∧ (results fn b.tmps).run C.P w = .ok (retV us) w := by
  have e : fn.results = rs.toArray := by rw [← hr]
  unfold Go.results
  rw [e, List.mapM_toArray]
  obtain ⟨us, hu, hrun⟩ := RS.run hb hs (F := fun x => match x with | .tmp t => pure (b.tmps.getD t undef) | .cell a t => do loadVar t (← asAddr (b.tmps.getD a undef))) (fun _ => rfl) (fun _ _ => rfl) hsrc
  refine ⟨us, hu, ?_⟩
  simp only [Sem.run_bind, Sem.run_map]
  erw [hrun]
  match us with
  | [] => rfl
  | [_] => rfl
  | _ :: _ :: _ => rfl
theorem G.retG {specs : List RS} {rs : List ResultVar} (hf : C.P.funcs[C.f]? = some C.fn) (hr : C.fn.results.toList = rs) (hsrc : RS.src C H A Ls specs rs)
    (h : ∀ w us, RS.ok H specs us → St w C.O H Ls → C.R (.returned (retV us)) w) (hm : C.m = .plain := by rfl) : G C H A Ls (.code .ret :: k) := by
  intro b w ha hs
  obtain ⟨us, hu, hrun⟩ := RS.results hr hsrc ha hs
  exact Goes.ret hm hf ha.defers hrun (h w us hu hs)
theorem G.endG {specs : List RS} {rs : List ResultVar} (hf : C.P.funcs[C.f]? = some C.fn) (hr : C.fn.results.toList = rs) (hsrc : RS.src C H A Ls specs rs)
    (h : ∀ w us, RS.ok H specs us → St w C.O H Ls → C.R (.returned (retV us)) w) (hm : C.m = .plain := by rfl) : G C H A Ls [] := by
  intro b w ha hs
  obtain ⟨us, hu, hrun⟩ := RS.results hr hsrc ha hs
  exact Goes.done hm hf ha.defers hrun (h w us hu hs)
end
/-! ### Whatever one cell holds -/
/-- a cell, told as the machine's value -/
def Kd.cell : Kd Value where
  sz := 1
  agg := false
  R := fun _ v cs => cs = [v] ∧ v.oneCell' = true
  mono := fun _ h => h
  len := fun h => by rw [h.1]; rfl
  one := fun h u hu => by rw [h.1] at hu; simp at hu; rw [hu]; exact h.2
  flat := fun _ => rfl
theorem Flat.cell : Flat Kd.cell := fun _ _ _ _ h => h
section
variable {C : Cx} {H : PH} {A : List (Nat × Value)} {Ls L M : List Res} {k : List Item}
variable {ops : Array Oper} {i : Nat} {rest : List Nat} {dst : Option Nat} {d : Nat} {ty : TypeId} {ps : String} {af : Array Edge} {gd : Option (Nat × Bool)}
theorem G.loadC {x : Operand} {t : TypeId} {a : Addr} {y : Value} (ho : ops[i]? = some { dst := some d, op := .load t x, type := ty, pos := ps, after := af, guard := gd }) (hw : wantedA A ops gd = some true) (hn : Nat.blt d C.n = true)
    (hx : ev A x = some (.pointer (some a))) (ht : TyOk C.P t Kd.cell) (hr : ∀ w, St w C.O H Ls → Rd w H Kd.cell a y)
    (g : G C H ((d, y) :: A) Ls (.inRegion ops rest :: k)) : G C H A Ls (.inRegion ops (i :: rest) :: k) := G.load ho hw hn hx ht hr (by rintro _ ⟨rfl, _⟩; exact g)
theorem G.makeIface {x : Operand} {t : TypeId} {v : Value} (ho : ops[i]? = some { dst := some d, op := .makeInterface t x, type := ty, pos := ps, after := af, guard := gd }) (hw : wantedA A ops gd = some true) (hn : Nat.blt d C.n = true) (hx : ev A x = some v)
    (ht : (match C.P.underlying t with | some (.interface _) => false | some _ => true | none => false) = true)
    (g : G C H ((d, .iface t v) :: A) Ls (.inRegion ops rest :: k)) : G C H A Ls (.inRegion ops (i :: rest) :: k) :=
  G.val ho hw rfl hn (fun a w ha _ => by
    cases hq : C.P.underlying t with
    | none => rw [hq] at ht; cases ht
    | some ds =>
      rw [hq] at ht
      simp only [execOp, Instr.makeInterface, Sem.run_bind, run_underlying hq, Result.andThen_ok, ha.eval hx]
      cases ds <;> first | (simp at ht; done) | rfl) g
theorem run_eqPtr (P : Program) (w : World) (t e : TypeId) (a b : Option Addr) (r : Bool) (ht : P.underlying t = some (.pointer e)) (hr : (a = none ∧ r = b.isNone) ∨ (a ≠ none ∧ b = none ∧ r = false)) : (Op.equal t (.pointer a) (.pointer b)).run P w = .ok r w := by
  unfold Op.equal Op.maxDepth
  rw [Op.equalIn]
  simp only [Sem.run_bind, run_underlying ht, Result.andThen_ok]
  rcases hr with ⟨rfl, rfl⟩ | ⟨ha, rfl, rfl⟩
  · cases b <;> rfl
  · cases a with
    | none => exact absurd rfl ha
    | some a => rfl
theorem G.eqPtr {x y : Operand} {t t' e : TypeId} {a b : Option Addr} {r : Bool} (ho : ops[i]? = some { dst := some d, op := .binOp .eql t x y t', type := ty, pos := ps, after := af, guard := gd }) (hw : wantedA A ops gd = some true) (hn : Nat.blt d C.n = true)
    (hx : ev A x = some (.pointer a)) (hy : ev A y = some (.pointer b)) (ht : C.P.underlying t = some (.pointer e)) (hr : (a = none ∧ r = b.isNone) ∨ (a ≠ none ∧ b = none ∧ r = false))
    (g : G C H ((d, .bool r) :: A) Ls (.inRegion ops rest :: k)) : G C H A Ls (.inRegion ops (i :: rest) :: k) :=
  G.val ho hw rfl hn (fun a' w ha _ => by
    have h1 : (eqGuard .eql t x y (.pointer a) (.pointer b)).run C.P w = .ok () w := by unfold eqGuard; rfl
    simp only [execOp, ha.eval hx, ha.eval hy, Sem.run_bind, h1, Result.andThen_ok, binOp, run_eqPtr C.P w t e a b r ht hr, Sem.run_pure]) g
theorem G.eqPtrn {x y : Operand} {t t' e : TypeId} {a b : Option Addr} {r : Bool} (ho : ops[i]? = some { dst := some d, op := .binOp .neq t x y t', type := ty, pos := ps, after := af, guard := gd }) (hw : wantedA A ops gd = some true) (hn : Nat.blt d C.n = true)
    (hx : ev A x = some (.pointer a)) (hy : ev A y = some (.pointer b)) (ht : C.P.underlying t = some (.pointer e)) (hr : (a = none ∧ r = !b.isNone) ∨ (a ≠ none ∧ b = none ∧ r = true))
    (g : G C H ((d, .bool r) :: A) Ls (.inRegion ops rest :: k)) : G C H A Ls (.inRegion ops (i :: rest) :: k) :=
  G.val ho hw rfl hn (fun a' w ha _ => by
    have h1 : (eqGuard .neq t x y (.pointer a) (.pointer b)).run C.P w = .ok () w := by unfold eqGuard; rfl
    have h2 := run_eqPtr C.P w t e a b (!r) ht (by rcases hr with ⟨h1, h2⟩ | ⟨h1, h2, h3⟩; exact .inl ⟨h1, by rw [h2]; simp⟩; exact .inr ⟨h1, h2, by rw [h3]; rfl⟩)
    simp only [execOp, ha.eval hx, ha.eval hy, Sem.run_bind, h1, Result.andThen_ok, binOp, h2, Sem.run_pure, Bool.not_not]) g
end
/-- one part of a struct literal -/
theorem fillStep {place : Nat → Option (Nat × Nat)} {j off sz : Nat} {v : Value} {cs p c r full : List Value} {pvs : List (Nat × Value)} (hfull : full = p ++ c ++ r) (hp : place j = some (off, sz)) (hv : v.cells = cs.toArray) (hl : cs.length = sz) (hc : c.length = sz) (ho : p.length = off) :
    Instr.fill place full.toArray ((j, v) :: pvs) = Instr.fill place (p ++ cs ++ r).toArray pvs := by
  subst hfull; exact fill_step hp hv hl hc ho
end Go.Proofs.Ytpffemcpfddjbaa.K
