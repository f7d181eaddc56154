/- The judgement 'G': results that are variables; lengths and capacities (own text). -/
import Derived.Test.YtpffemcpfddjbaaMem8
namespace Go.Proofs.Ytpffemcpfddjbaa.K
open Go
section
variable {C : Cx} {H : PH} {A : List (Nat × Value)} {Ls L : List Res} {k : List Item}
theorem G.retC1 {α : Type} {d : Kd α} {y : α} {a : Addr} {t : Tmp} {ty : TypeId} (hf : C.P.funcs[C.f]? = some C.fn) (hr : C.fn.results.toList = [.cell t ty]) (hv : look A t = some (.pointer (some a))) (ht : TyOk C.P ty d) (hrd : ∀ w, St w C.O H Ls → Rd w H d a y)
    (h : ∀ w cs, d.R H y cs → St w C.O H Ls → C.R (.returned (d.val cs)) w) (hm : C.m = .plain := by rfl) : G C H A Ls (.code .ret :: k) := by
  intro b w ha hs
  obtain ⟨cs, h1, h2⟩ := (hrd w hs).run ht
  have h3 : (loadVar ty a).run C.P w = .ok (d.val cs) w := by simpa [Instr.loadAt, Instr.sureAddr] using h2
  have e : C.fn.results = #[.cell t ty] := by rw [← Array.toArray_toList (xs := C.fn.results), hr]
  have hv' : b.tmps.getD t undef = .pointer (some a) := (ha.at_ _ _ hv).2
  rw [Array.getD_eq_getD_getElem?] at hv'
  exact Goes.ret hm hf ha.defers (by simp [results, e, List.mapM_toArray, hv', asAddr, h3]) (h w cs h1 hs)
theorem G.retC2 {α : Type} {d : Kd α} {y : α} {a : Addr} {t u : Tmp} {ty : TypeId} {v : Value} (hf : C.P.funcs[C.f]? = some C.fn) (hr : C.fn.results.toList = [.cell t ty, .tmp u]) (hv : look A t = some (.pointer (some a))) (hu : look A u = some v) (ht : TyOk C.P ty d) (hrd : ∀ w, St w C.O H Ls → Rd w H d a y)
    (h : ∀ w cs, d.R H y cs → St w C.O H Ls → C.R (.returned (.tuple #[d.val cs, v])) w) (hm : C.m = .plain := by rfl) : G C H A Ls (.code .ret :: k) := by
  intro b w ha hs
  obtain ⟨cs, h1, h2⟩ := (hrd w hs).run ht
  have h3 : (loadVar ty a).run C.P w = .ok (d.val cs) w := by simpa [Instr.loadAt, Instr.sureAddr] using h2
  have e : C.fn.results = #[.cell t ty, .tmp u] := by rw [← Array.toArray_toList (xs := C.fn.results), hr]
  have hv' : b.tmps.getD t undef = .pointer (some a) := (ha.at_ _ _ hv).2
  have hu' : b.tmps.getD u undef = v := (ha.at_ _ _ hu).2
  rw [Array.getD_eq_getD_getElem?] at hv' hu'
  exact Goes.ret hm hf ha.defers (by simp [results, e, List.mapM_toArray, hv', hu', asAddr, h3]) (h w cs h1 hs)
theorem G.headEq {r r' : Res} (e : r = r') (g : G C H A (r' :: L) k) : G C H A (r :: L) k := by subst e; exact g
end
/-! Contracts of functions behind which no more is only read than ahead. -/
def PostS (O : World) (H : PH) (Q : Value → List Res → Prop) : Ending → World → Prop :=
  fun e w' => ∃ v L', e = .returned v ∧ Q v L' ∧ St w' O H L'
def CtrS (P : Program) (f : FuncId) (args : List Value) (O : World) (H : PH) (Ls : List Res) (Q : Value → List Res → Prop) : Prop :=
  ∀ w, St w O H Ls → Calls P f args.toArray w (PostS O H Q)
theorem CtrS.ctr {P : Program} {f : FuncId} {args : List Value} {O : World} {H : PH} {Ls : List Res} {Q : Value → List Res → Prop} (h : CtrS P f args O H Ls Q) : Ctr P f args O H Ls (fun v _ L' => Q v L') :=
  fun w hs => (h w hs).mono fun _ _ ⟨v, L', e, q, s⟩ => ⟨v, H, L', e, PH.le_refl _, q, s⟩
theorem CtrS.start {P : Program} {f : FuncId} {fn : Func} {c : Code} {args : List Value} {O : World} {H : PH} {Ls : List Res} {Q : Value → List Res → Prop} {n : Nat} {A : List (Nat × Value)}
    (hf : P.funcs[f]? = some fn) (hb : fn.body = some c) (hn : fn.ntmps = n) (hA : idx 0 args = A) (hl : Nat.ble args.length n = true)
    (g : G ⟨P, f, fn, PostS O H Q, O, n, .plain⟩ H A Ls [.code c]) : CtrS P f args O H Ls Q := by
  intro w hs
  refine Goes.calls hf hb ?_
  have hl' := Nat.le_of_ble_eq_true hl
  refine g _ w ⟨?_, rfl, fun i v hv => ?_⟩ hs
  · simp [hn]; omega
  · subst hA
    obtain ⟨j, rfl, hj⟩ := idx_look hv
    have hjl : j < args.length := (List.getElem?_eq_some_iff.1 hj).1
    refine ⟨show 0 + j < n by omega, ?_⟩
    simp only [Nat.zero_add, Array.getD_eq_getD_getElem?]
    rw [Array.getElem?_append_left (by simpa using hjl)]
    simp [hj]
section
variable {C : Cx} {H : PH} {A : List (Nat × Value)} {Ls L : List Res} {k : List Item}
variable {ops : Array Oper} {i : Nat} {rest : List Nat} {d : Nat} {ty : TypeId} {ps : String} {af : Array Edge} {gd : Option (Nat × Bool)}
theorem G.callS {f : FuncId} {args : Array Operand} {ats : Array TypeId} {vs : List Value} {Q : Value → List Res → Prop}
    (ho : ops[i]? = some { dst := some d, op := .call { callee := .value (.func f), args := args, argTypes := ats }, type := ty, pos := ps, after := af, guard := gd }) (hw : wantedA A ops gd = some true) (hn : Nat.blt d C.n = true)
    (hargs : evs A args.toList = some vs) (hok : CallOk C.P f) (hc : CtrS C.P f vs C.O H Ls Q)
    (g : ∀ v L', Q v L' → G C H ((d, v) :: A) L' (.inRegion ops rest :: k)) : G C H A Ls (.inRegion ops (i :: rest) :: k) := by
  intro a w ha hs
  refine Goes.opE ho (wanted_of ha hw) (callW hargs hok ha w) ?_
  refine (hc w hs).mono ?_
  rintro e w' ⟨v, L', rfl, hq, hst⟩
  exact ⟨v, rfl, g v L' hq _ w' (ha.put (by simpa [Nat.blt_eq] using hn) _) hst⟩
theorem G.buildSlice0 {α : Type} {df : Kd α} {t e : TypeId} {by_ : Nat} (ho : ops[i]? = some { dst := some d, op := .buildSlice t 0 #[], type := ty, pos := ps, after := af, guard := gd }) (hw : wantedA A ops gd = some true) (hn : Nat.blt d C.n = true)
    (ht : ElOk C.P t e df by_) (gg : ∀ B, G C H ((d, .slice B ([] : List α).length 0) :: A) (OS e df B 0 ([] : List α) :: Ls) (.inRegion ops rest :: k)) : G C H A Ls (.inRegion ops (i :: rest) :: k) :=
  G.valW ho hw rfl hn fun a w ha hs => by
    refine ⟨.slice (some ⟨w.heap.size, 0, none⟩) 0 0, w.alloc (.cells #[] e), H, OS e df (some ⟨w.heap.size, 0, none⟩) 0 [] :: Ls, ?_, hs.alloc _ ⟨by simp, .inr ⟨w.heap.size, [], [], [], (0, 0), rfl, rfl, rfl, .zero, rfl⟩⟩, gg _⟩
    simp [execOp, Instr.buildSlice, run_underlying ht.und, run_sizeOf ht.size, Instr.fill, newRow]
    have e0 : Array.map (fun (_ : Nat) => (default : Value)) (Array.range 0) = #[] := by
      apply Array.eq_empty_of_size_eq_zero
      simp
    rw [e0]
theorem run_eqNil (P : Program) (w : World) (t e : TypeId) (B : Option Addr) (m c : Nat) (ht : P.underlying t = some (.slice e)) (n : Nat) : (Op.equalIn (n + 1) t (.slice B m c) (.slice none 0 0)).run P w = .ok B.isNone w := by
  unfold Op.equalIn
  cases B <;> simp [run_underlying ht]
theorem run_eqNil' (P : Program) (w : World) (t e : TypeId) (B : Option Addr) (m c : Nat) (ht : P.underlying t = some (.slice e)) : (Op.equal t (.slice B m c) (.slice none 0 0)).run P w = .ok B.isNone w := run_eqNil P w t e B m c ht _
theorem G.eqNil {x y : Operand} {t t' e : TypeId} {B : Option Addr} {m c : Nat} (ho : ops[i]? = some { dst := some d, op := .binOp .eql t x y t', type := ty, pos := ps, after := af, guard := gd }) (hw : wantedA A ops gd = some true) (hn : Nat.blt d C.n = true)
    (hx : ev A x = some (.slice B m c)) (hy : ev A y = some (.slice none 0 0)) (ht : C.P.underlying t = some (.slice e))
    (g : G C H ((d, .bool B.isNone) :: A) Ls (.inRegion ops rest :: k)) : G C H A Ls (.inRegion ops (i :: rest) :: k) :=
  G.val ho hw rfl hn (fun a w ha _ => by
    simp [execOp, ha.eval hx, ha.eval hy, Sem.run_bind, eqGuard, binOp, run_eqNil' _ _ _ _ _ _ _ ht]) g
theorem SlR.nil_of {α : Type} {df : Kd α} {B : Option Addr} {c : Nat} {xs : List α} (h : SlR df H B c xs) (e : B.isNone = true) : xs = [] := by
  obtain ⟨_, h | ⟨a, u, _⟩⟩ := h
  · exact h
  · subst u; cases e
end
end Go.Proofs.Ytpffemcpfddjbaa.K
