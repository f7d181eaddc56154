/- The judgement 'G' and its rules for what does not touch the heap (own text). -/
import Derived.Test.YtpffemcpfddjbaaKind
import Derived.Laws.Sem
import Derived.Laws.Entries
namespace Go.Proofs.Ytpffemcpfddjbaa.K
open Go

/-- What stands fixed while one function runs. -/
structure Cx where
  P : Program
  f : FuncId
  fn : Func
  R : Ending → World → Prop
  O : World
  n : Nat
  m : Mk
/-- From these slots and resources on, with this stack, the run ends as R says. -/
def G (C : Cx) (H : PH) (A : List (Nat × Value)) (Ls : List Res) (stk : List Item) : Prop :=
  ∀ a w, Slots C.n a A → St w C.O H Ls → Goes C.P C.f C.R C.m stk a w

section
variable {C : Cx} {H : PH} {A : List (Nat × Value)} {Ls : List Res} {k : List Item}
theorem G.skip (g : G C H A Ls k) : G C H A Ls (.code .skip :: k) := fun a w ha hs => (g a w ha hs).skip
theorem G.inBlock {id : Nat} (g : G C H A Ls k) : G C H A Ls (.inBlock id :: k) := fun a w ha hs => (g a w ha hs).inBlock
theorem G.seq {x y : Code} (g : G C H A Ls (.code x :: .code y :: k)) : G C H A Ls (.code (.seq x y) :: k) := fun a w ha hs => (g a w ha hs).seq
theorem G.block {id : Nat} {c : Code} (g : G C H A Ls (.code c :: .inBlock id :: k)) : G C H A Ls (.code (.block id c) :: k) := fun a w ha hs => (g a w ha hs).block
theorem G.exit {id : Nat} {k' : List Item} (h : exitTo id k = some k') (g : G C H A Ls k') : G C H A Ls (.code (.exit id) :: k) := fun a w ha hs => (g a w ha hs).exit h
theorem G.regionEnd {ops : Array Oper} (g : G C H A Ls k) : G C H A Ls (.inRegion ops [] :: k) := fun a w ha hs => (g a w ha hs).regionEnd
theorem G.region {id : Nat} {ops : Array Oper} {l : List Nat} (hl : List.range ops.size = l) (g : G C H A Ls (.inRegion ops l :: k)) : G C H A Ls (.code (.region id ops false) :: k) :=
  fun a w ha hs => (g a w ha hs).region hl
/-- a branch: by a Bool of the slots -/
theorem G.cond {c : Operand} {x y : Code} {t : Bool} (hc : ev A c = some (.bool t)) (h1 : t = true → G C H A Ls (.code x :: k)) (h2 : t = false → G C H A Ls (.code y :: k)) : G C H A Ls (.code (.cond c x y) :: k) := by
  intro a w ha hs
  refine Goes.cond (ha.eval hc) ?_
  cases t with
  | true => exact h1 rfl a w ha hs
  | false => exact h2 rfl a w ha hs
/-- a branch: by a proposition -/
theorem G.condP {c : Operand} {x y : Code} {p : Prop} [Decidable p] (hc : ev A c = some (.bool (decide p))) (h1 : p → G C H A Ls (.code x :: k)) (h2 : ¬ p → G C H A Ls (.code y :: k)) : G C H A Ls (.code (.cond c x y) :: k) :=
  G.cond hc (fun e => h1 (of_decide_eq_true e)) (fun e => h2 (of_decide_eq_false e))
theorem G.condT {c : Operand} {x y : Code} (hc : ev A c = some (.bool true)) (h : G C H A Ls (.code x :: k)) : G C H A Ls (.code (.cond c x y) :: k) := G.cond hc (fun _ => h) (fun e => by cases e)
theorem G.condF {c : Operand} {x y : Code} (hc : ev A c = some (.bool false)) (h : G C H A Ls (.code y :: k)) : G C H A Ls (.code (.cond c x y) :: k) := G.cond hc (fun e => by cases e) (fun _ => h)
/-- the stack's tail under a name: for a place where ways meet -/
theorem G.tail {s : Item} (J : (PH → List (Nat × Value) → List Res → List Item → Prop) → List Item → Prop) (h1 : J (G C) k) (h2 : J (G C) k → G C H A Ls (s :: k)) : G C H A Ls (s :: k) := h2 h1
/-- within a region: what is left of it -/
theorem G.rest {ops : Array Oper} {l1 l2 : List Nat} (J : (PH → List (Nat × Value) → List Res → List Item → Prop) → List Item → Prop) (h1 : J (G C) (.inRegion ops l2 :: k)) (h2 : J (G C) (.inRegion ops l2 :: k) → G C H A Ls (.inRegion ops (l1 ++ l2) :: k)) : G C H A Ls (.inRegion ops (l1 ++ l2) :: k) := h2 h1
/-- a loop: its head under a name -/
theorem G.loop {c : Code} (J : (PH → List (Nat × Value) → List Res → List Item → Prop) → List Item → Prop) (h1 : J (G C) (.code c :: .inLoop c :: k)) (h2 : J (G C) (.code c :: .inLoop c :: k) → G C H A Ls (.code c :: .inLoop c :: k)) : G C H A Ls (.code (.loop c) :: k) :=
  fun a w ha hs => (h2 h1 a w ha hs).loop
theorem G.round {c : Code} (g : G C H A Ls (.code c :: .inLoop c :: k)) : G C H A Ls (.inLoop c :: k) := fun a w ha hs => (g a w ha hs).inLoop
/-- A part of what is known of the slots is enough. -/
theorem G.less {B : List (Nat × Value)} (hB : subs A B) (g : G C H B Ls k) : G C H A Ls k := fun a w ha hs => g a w (ha.less (subs_look hB)) hs
/-- A Bool of the slots is decided. -/
theorem G.splitB {d : Nat} {t : Bool} (hd : look A d = some (.bool t)) (h1 : t = true → G C H ((d, .bool true) :: A) Ls k) (h2 : t = false → G C H ((d, .bool false) :: A) Ls k) : G C H A Ls k := by
  cases t with
  | true =>
    refine fun a w ha hs => h1 rfl a w ⟨ha.size, ha.defers, fun i v hv => ?_⟩ hs
    simp only [look] at hv
    split at hv
    · rename_i e; subst e; injection hv with hv; subst hv; exact ha.at_ _ _ hd
    · exact ha.at_ _ _ hv
  | false =>
    refine fun a w ha hs => h2 rfl a w ⟨ha.size, ha.defers, fun i v hv => ?_⟩ hs
    simp only [look] at hv
    split at hv
    · rename_i e; subst e; injection hv with hv; subst hv; exact ha.at_ _ _ hd
    · exact ha.at_ _ _ hv
theorem G.splitP {d : Nat} {p : Prop} [Decidable p] (hd : look A d = some (.bool (decide p))) (h1 : p → G C H ((d, .bool true) :: A) Ls k) (h2 : ¬ p → G C H ((d, .bool false) :: A) Ls k) : G C H A Ls k :=
  G.splitB hd (fun e => h1 (of_decide_eq_true e)) (fun e => h2 (of_decide_eq_false e))
/-- A slot's value, told in other words. -/
theorem G.same {d : Nat} {u v : Value} (hd : look A d = some u) (e : u = v) (g : G C H ((d, v) :: A) Ls k) : G C H A Ls k := by
  subst e
  refine fun a w ha hs => g a w ⟨ha.size, ha.defers, fun i v hv => ?_⟩ hs
  simp only [look] at hv
  split at hv
  · rename_i e; subst e; injection hv with hv; subst hv; exact ha.at_ _ _ hd
  · exact ha.at_ _ _ hv
end

/-! ### Results -/
def resL (A : List (Nat × Value)) : List ResultVar → Option (List Value)
  | [] => some []
  | .tmp t :: r => match look A t, resL A r with
    | some v, some l => some (v :: l)
    | _, _ => none
  | .cell _ _ :: _ => none
theorem resL_run {n : Nat} {a : Act} {A : List (Nat × Value)} (h : Slots n a A) (P : Program) (w : World) {F : ResultVar → Sem Value} (hF : ∀ t, F (.tmp t) = pure (a.tmps.getD t undef)) :
    ∀ {rs : List ResultVar} {vs : List Value}, resL A rs = some vs → Sem.run P (rs.mapM F) w = .ok vs w
  | [], vs, hv => by simp [resL] at hv; subst hv; rfl
  | .tmp t :: r, vs, hv => by
    simp only [resL] at hv
    split at hv
    · rename_i v l h1 h2
      injection hv with hv
      subst hv
      have ih := resL_run h P w hF h2
      rw [List.mapM_cons, hF]
      simp only [Sem.run_bind, Sem.run_pure, Result.andThen_ok, (h.at_ t v h1).2, ih]
    · cases hv
theorem results_run {n : Nat} {a : Act} {A : List (Nat × Value)} (h : Slots n a A) (P : Program) (w : World) {fn : Func} {rs : List ResultVar} (hr : fn.results.toList = rs) {vs : List Value} (hv : resL A rs = some vs) :
    (results fn a.tmps).run P w = .ok (if vs.length = 1 then vs.headD undef else .tuple vs.toArray) w := by
  have e : fn.results = rs.toArray := by rw [← hr]
  unfold results
  rw [e, List.mapM_toArray]
  simp only [Sem.run_bind, Sem.run_map]
  rw [resL_run h P w (fun _ => rfl) hv]
  match vs with
  | [] => rfl
  | [v] => rfl
  | v :: u :: r => rfl
section
variable {C : Cx} {H : PH} {A : List (Nat × Value)} {Ls : List Res} {k : List Item}
theorem G.ret1 {t : Tmp} {v : Value} (hf : C.P.funcs[C.f]? = some C.fn) (hr : C.fn.results.toList = [.tmp t]) (hv : look A t = some v) (h : ∀ w, St w C.O H Ls → C.R (.returned v) w) (hm : C.m = .plain := by rfl) : G C H A Ls (.code .ret :: k) := by
  intro a w ha hs
  exact Goes.ret hm hf ha.defers (by have := results_run ha C.P w hr (vs := [v]) (by simp [resL, hv]); simpa using this) (h w hs)
theorem G.retN {rs : List ResultVar} {vs : List Value} (hf : C.P.funcs[C.f]? = some C.fn) (hr : C.fn.results.toList = rs) (hv : resL A rs = some vs) (hl : (vs.length == 1) = false) (h : ∀ w, St w C.O H Ls → C.R (.returned (.tuple vs.toArray)) w) (hm : C.m = .plain := by rfl) : G C H A Ls (.code .ret :: k) := by
  intro a w ha hs
  have hl' : ¬ vs.length = 1 := by simpa using hl
  exact Goes.ret hm hf ha.defers (by have := results_run ha C.P w hr hv; rw [if_neg hl'] at this; exact this) (h w hs)
theorem G.end1 {t : Tmp} {v : Value} (hf : C.P.funcs[C.f]? = some C.fn) (hr : C.fn.results.toList = [.tmp t]) (hv : look A t = some v) (h : ∀ w, St w C.O H Ls → C.R (.returned v) w) (hm : C.m = .plain := by rfl) : G C H A Ls [] := by
  intro a w ha hs
  exact Goes.done hm hf ha.defers (by have := results_run ha C.P w hr (vs := [v]) (by simp [resL, hv]); simpa using this) (h w hs)
theorem G.endN {rs : List ResultVar} {vs : List Value} (hf : C.P.funcs[C.f]? = some C.fn) (hr : C.fn.results.toList = rs) (hv : resL A rs = some vs) (hl : (vs.length == 1) = false) (h : ∀ w, St w C.O H Ls → C.R (.returned (.tuple vs.toArray)) w) (hm : C.m = .plain := by rfl) : G C H A Ls [] := by
  intro a w ha hs
  have hl' : ¬ vs.length = 1 := by simpa using hl
  exact Goes.done hm hf ha.defers (by have := results_run ha C.P w hr hv; rw [if_neg hl'] at this; exact this) (h w hs)

/-! ### Operations -/
def wantedA (A : List (Nat × Value)) (ops : Array Oper) : Option (Nat × Bool) → Option Bool
  | none => some true
  | some (j, b) => match (ops[j]?).bind (·.dst) with
    | some d => match look A d with
      | some (.bool t) => some (t == b)
      | some (.tuple _) => some false
      | _ => none
    | none => none
theorem wanted_of {n : Nat} {a : Act} (h : Slots n a A) {ops : Array Oper} {o : Oper} {b : Bool} (hw : wantedA A ops o.guard = some b) : Region.wanted o (yielded ops a.tmps) = b := by
  unfold Region.wanted
  cases hg : o.guard with
  | none => rw [hg] at hw; simp [wantedA] at hw; simpa using hw
  | some g =>
    obtain ⟨j, want⟩ := g
    rw [hg] at hw
    simp only [wantedA] at hw
    split at hw
    · rename_i d hd
      split at hw
      · rename_i t ht
        injection hw with hw
        obtain ⟨hlt, hval⟩ := h.at_ d _ ht
        have he : a.tmps[d]? = some (.bool t) := by
          rw [Array.getD_eq_getD_getElem?] at hval
          have hs : d < a.tmps.size := by rw [h.size]; exact hlt
          rw [Array.getElem?_eq_getElem hs] at hval ⊢
          simpa using hval
        simp only [yielded, hd, Option.bind_some, he]
        subst hw
        cases t <;> cases want <;> rfl
      · rename_i t ht
        injection hw with hw
        obtain ⟨hlt, hval⟩ := h.at_ d _ ht
        have he : a.tmps[d]? = some (.tuple t) := by
          rw [Array.getD_eq_getD_getElem?] at hval
          have hs : d < a.tmps.size := by rw [h.size]; exact hlt
          rw [Array.getElem?_eq_getElem hs] at hval ⊢
          simpa using hval
        simp only [yielded, hd, Option.bind_some, he]
        subst hw
        rfl
      · cases hw
    · cases hw
variable {ops : Array Oper} {i : Nat} {rest : List Nat}
/-- An operation that is not run. -/
theorem G.unwanted {o : Oper} {d : Nat} (ho : ops[i]? = some o) (hw : wantedA A ops o.guard = some false) (hd : o.dst = some d) (hn : Nat.blt d C.n = true) (g : G C H ((d, undef) :: A) Ls (.inRegion ops rest :: k)) : G C H A Ls (.inRegion ops (i :: rest) :: k) := by
  intro a w ha hs
  refine Goes.opSkip ho (wanted_of ha hw) ?_
  rw [hd]
  exact g _ w (ha.put (by simpa [Nat.blt_eq] using hn) _) hs
theorem G.unwanted0 {o : Oper} (ho : ops[i]? = some o) (hw : wantedA A ops o.guard = some false) (hd : o.dst = none) (g : G C H A Ls (.inRegion ops rest :: k)) : G C H A Ls (.inRegion ops (i :: rest) :: k) := by
  intro a w ha hs
  refine Goes.opSkip ho (wanted_of ha hw) ?_
  rw [hd]
  exact g _ w ha hs
/-- An operation that gives a value and leaves the world alone. -/
theorem G.val {o : Oper} {d : Nat} (ho : ops[i]? = some o) (hw : wantedA A ops o.guard = some true) (hd : o.dst = some d) (hn : Nat.blt d C.n = true) {v : Value}
    (h : ∀ a w, Slots C.n a A → St w C.O H Ls → (execOp a.eval o).run C.P w = .ok (.value v) w) (g : G C H ((d, v) :: A) Ls (.inRegion ops rest :: k)) : G C H A Ls (.inRegion ops (i :: rest) :: k) := by
  intro a w ha hs
  refine Goes.opV ho (wanted_of ha hw) (h a w ha hs) ?_
  rw [hd]
  exact g _ w (ha.put (by simpa [Nat.blt_eq] using hn) _) hs
/-- An operation that gives a value and turns the world. -/
theorem G.valW {o : Oper} {d : Nat} (ho : ops[i]? = some o) (hw : wantedA A ops o.guard = some true) (hd : o.dst = some d) (hn : Nat.blt d C.n = true)
    (h : ∀ a w, Slots C.n a A → St w C.O H Ls → ∃ v w' H' Ls', (execOp a.eval o).run C.P w = .ok (.value v) w' ∧ St w' C.O H' Ls' ∧ G C H' ((d, v) :: A) Ls' (.inRegion ops rest :: k)) : G C H A Ls (.inRegion ops (i :: rest) :: k) := by
  intro a w ha hs
  obtain ⟨v, w', H', Ls', hr, hs', g⟩ := h a w ha hs
  refine Goes.opV ho (wanted_of ha hw) hr ?_
  rw [hd]
  exact g _ w' (ha.put (by simpa [Nat.blt_eq] using hn) _) hs'
/-- An operation that turns the world alone. -/
theorem G.unitW {o : Oper} (ho : ops[i]? = some o) (hw : wantedA A ops o.guard = some true) (hd : o.dst = none)
    (h : ∀ a w, Slots C.n a A → St w C.O H Ls → ∃ w' H' Ls', (execOp a.eval o).run C.P w = .ok .skip w' ∧ St w' C.O H' Ls' ∧ G C H' A Ls' (.inRegion ops rest :: k)) : G C H A Ls (.inRegion ops (i :: rest) :: k) := by
  intro a w ha hs
  obtain ⟨w', H', Ls', hr, hs', g⟩ := h a w ha hs
  refine Goes.opU ho (wanted_of ha hw) hr ?_
  rw [hd]
  exact g _ w' ha hs'

variable {d : Nat} {ty : TypeId} {ps : String} {af : Array Edge} {gd : Option (Nat × Bool)}
theorem G.move {x : Operand} {v : Value} (ho : ops[i]? = some { dst := some d, op := .move x, type := ty, pos := ps, after := af, guard := gd }) (hw : wantedA A ops gd = some true) (hn : Nat.blt d C.n = true) (hx : ev A x = some v)
    (g : G C H ((d, v) :: A) Ls (.inRegion ops rest :: k)) : G C H A Ls (.inRegion ops (i :: rest) :: k) :=
  G.val ho hw rfl hn (fun a w ha _ => by simp [execOp, ha.eval hx]) g
theorem G.assign {x : Operand} {v : Value} (ho : ops[i]? = some { dst := some d, op := .assign x, type := ty, pos := ps, after := af, guard := gd }) (hw : wantedA A ops gd = some true) (hn : Nat.blt d C.n = true) (hx : ev A x = some v)
    (g : G C H ((d, v) :: A) Ls (.inRegion ops rest :: k)) : G C H A Ls (.inRegion ops (i :: rest) :: k) :=
  G.val ho hw rfl hn (fun a w ha _ => by simp [execOp, ha.eval hx]) g
theorem G.pickT {c x y : Operand} {v : Value} (ho : ops[i]? = some { dst := some d, op := .pick c x y, type := ty, pos := ps, after := af, guard := gd }) (hw : wantedA A ops gd = some true) (hn : Nat.blt d C.n = true) (hc : ev A c = some (.bool true)) (hx : ev A x = some v)
    (g : G C H ((d, v) :: A) Ls (.inRegion ops rest :: k)) : G C H A Ls (.inRegion ops (i :: rest) :: k) :=
  G.val ho hw rfl hn (fun a w ha _ => by simp [execOp, ha.eval hc, ha.eval hx, asBool]) g
theorem G.pickF {c x y : Operand} {v : Value} (ho : ops[i]? = some { dst := some d, op := .pick c x y, type := ty, pos := ps, after := af, guard := gd }) (hw : wantedA A ops gd = some true) (hn : Nat.blt d C.n = true) (hc : ev A c = some (.bool false)) (hy : ev A y = some v)
    (g : G C H ((d, v) :: A) Ls (.inRegion ops rest :: k)) : G C H A Ls (.inRegion ops (i :: rest) :: k) :=
  G.val ho hw rfl hn (fun a w ha _ => by simp [execOp, ha.eval hc, ha.eval hy, asBool]) g
theorem G.nilCheck {x : Operand} {p : Addr} (ho : ops[i]? = some { dst := some d, op := .nilCheck x, type := ty, pos := ps, after := af, guard := gd }) (hw : wantedA A ops gd = some true) (hn : Nat.blt d C.n = true) (hx : ev A x = some (.pointer (some p)))
    (g : G C H ((d, .pointer (some p)) :: A) Ls (.inRegion ops rest :: k)) : G C H A Ls (.inRegion ops (i :: rest) :: k) :=
  G.val ho hw rfl hn (fun a w ha _ => by simp [execOp, ha.eval hx]) g
theorem G.extract {x : Operand} {j : Nat} {vs : Array Value} {v : Value} (ho : ops[i]? = some { dst := some d, op := .extract x j, type := ty, pos := ps, after := af, guard := gd }) (hw : wantedA A ops gd = some true) (hn : Nat.blt d C.n = true) (hx : ev A x = some (.tuple vs)) (hv : vs[j]? = some v)
    (g : G C H ((d, v) :: A) Ls (.inRegion ops rest :: k)) : G C H A Ls (.inRegion ops (i :: rest) :: k) :=
  G.val ho hw rfl hn (fun a w ha _ => by simp [execOp, ha.eval hx, Instr.extract, hv]) g
theorem G.makeFunc {fn : Fn} {first captured : Array Operand} {fs cs : List Value} (ho : ops[i]? = some { dst := some d, op := .makeFunc fn first captured, type := ty, pos := ps, after := af, guard := gd }) (hw : wantedA A ops gd = some true) (hn : Nat.blt d C.n = true)
    (hf : evs A first.toList = some fs) (hc : evs A captured.toList = some cs)
    (g : G C H ((d, .func fn fs.toArray cs.toArray) :: A) Ls (.inRegion ops rest :: k)) : G C H A Ls (.inRegion ops (i :: rest) :: k) :=
  G.val ho hw rfl hn (fun a w ha _ => by
    have e1 : first.map a.eval = fs.toArray := by rw [← ha.evals hf]; exact (List.map_toArray ..).symm ▸ rfl
    have e2 : captured.map a.eval = cs.toArray := by rw [← ha.evals hc]; exact (List.map_toArray ..).symm ▸ rfl
    simp [execOp, e1, e2, Instr.makeFunc]) g

/-! numbers -/
def wi64 (x : Int) : Int := (x + 9223372036854775808) % 18446744073709551616 - 9223372036854775808
def wi32 (x : Int) : Int := (x + 2147483648) % 4294967296 - 2147483648
def wi16 (x : Int) : Int := (x + 32768) % 65536 - 32768
def wi8 (x : Int) : Int := (x + 128) % 256 - 128
def wu64 (x : Int) : Int := x % 18446744073709551616
def wu32 (x : Int) : Int := x % 4294967296
def wu16 (x : Int) : Int := x % 65536
def wu8 (x : Int) : Int := x % 256
def wr : IntKind → Int → Int
  | .i64, x => wi64 x | .i32, x => wi32 x | .i16, x => wi16 x | .i8, x => wi8 x
  | .u64, x => wu64 x | .u32, x => wu32 x | .u16, x => wu16 x | .u8, x => wu8 x
theorem wrap_wr (k : IntKind) (x : Int) : k.wrap x = wr k x := by
  cases k <;> simp [IntKind.wrap, IntKind.bits, IntKind.signed, wr, wi64, wi32, wi16, wi8, wu64, wu32, wu16, wu8] <;> (try split) <;> omega
def bitsI (op : BinOp) (k : IntKind) (x y : Int) : Int :=
  let a := BitVec.ofInt k.bits x
  let b := BitVec.ofInt k.bits y
  match op with
  | .and => wr k (a &&& b).toNat
  | .or => wr k (a ||| b).toNat
  | .xor => wr k (a ^^^ b).toNat
  | _ => wr k (a &&& ~~~b).toNat
def arith : BinOp → IntKind → Int → Int → Int
  | .add, k, x, y => wr k (x + y)
  | .sub, k, x, y => wr k (x - y)
  | .mul, k, x, y => wr k (x * y)
  | .quo, k, x, y => wr k (x.tdiv y)
  | .rem, _, x, y => x.tmod y
  | .shl, k, x, y => wr k (x * 2 ^ min y.toNat k.bits)
  | .shr, k, x, y => x / (2 ^ min y.toNat k.bits)
  | op, k, x, y => bitsI op k x y
def isShift : BinOp → Bool
  | .shl | .shr => true
  | _ => false
def isDiv : BinOp → Bool
  | .quo | .rem => true
  | _ => false
def isArith : BinOp → Bool
  | .add | .sub | .mul | .and | .or | .xor | .andNot => true
  | _ => false
theorem run_arith (P : Program) (w : World) (op : BinOp) (k : IntKind) (x y : Int) (t : TypeId) (h : isArith op = true) : (binOp op t (.int k x) (.int k y)).run P w = .ok (.int k (arith op k x y)) w := by
  cases op <;> simp [isArith] at h <;> simp [binOp, Op.intArith, Op.intBits, arith, bitsI, wrap_wr]
theorem run_div (P : Program) (w : World) (op : BinOp) (k : IntKind) (x y : Int) (t : TypeId) (h : isDiv op = true) (hy : y ≠ 0) : (binOp op t (.int k x) (.int k y)).run P w = .ok (.int k (arith op k x y)) w := by
  cases op <;> simp [isDiv] at h <;> simp [binOp, Op.intDiv, hy, arith, wrap_wr]
theorem run_shift (P : Program) (w : World) (op : BinOp) (k k' : IntKind) (x y : Int) (t : TypeId) (h : isShift op = true) (hy : 0 ≤ y) : (binOp op t (.int k x) (.int k' y)).run P w = .ok (.int k (arith op k x y)) w := by
  have hy' : ¬ y < 0 := by omega
  cases op <;> simp [isShift] at h <;> simp [binOp, Op.shift, hy', arith, wrap_wr]
  rw [Int.fdiv_eq_ediv_of_nonneg _ (by exact Int.pow_nonneg (by omega))]
theorem run_eqGuard_int (P : Program) (w : World) (op : BinOp) (t : TypeId) (x y : Operand) (kd kd' : IntKind) (m n : Int) : (eqGuard op t x y (.int kd m) (.int kd' n)).run P w = .ok () w := by
  unfold eqGuard
  cases op <;> rfl
theorem G.bin {op : BinOp} {x y : Operand} {t t' : TypeId} {kd : IntKind} {m n r : Int} (ho : ops[i]? = some { dst := some d, op := .binOp op t x y t', type := ty, pos := ps, after := af, guard := gd }) (hw : wantedA A ops gd = some true) (hn : Nat.blt d C.n = true)
    (hx : ev A x = some (.int kd m)) (hy : ev A y = some (.int kd n)) (hop : isArith op = true) (hr : arith op kd m n = r)
    (g : G C H ((d, .int kd r) :: A) Ls (.inRegion ops rest :: k)) : G C H A Ls (.inRegion ops (i :: rest) :: k) :=
  G.val ho hw rfl hn (fun a w ha _ => by
    subst hr
    simp only [execOp, ha.eval hx, ha.eval hy, Sem.run_bind, run_eqGuard_int, Result.andThen_ok, run_arith C.P w op kd m n t hop, Sem.run_pure]) g
theorem G.div {op : BinOp} {x y : Operand} {t t' : TypeId} {kd : IntKind} {m n r : Int} (ho : ops[i]? = some { dst := some d, op := .binOp op t x y t', type := ty, pos := ps, after := af, guard := gd }) (hw : wantedA A ops gd = some true) (hn : Nat.blt d C.n = true)
    (hx : ev A x = some (.int kd m)) (hy : ev A y = some (.int kd n)) (hop : isDiv op = true) (h0 : n ≠ 0) (hr : arith op kd m n = r)
    (g : G C H ((d, .int kd r) :: A) Ls (.inRegion ops rest :: k)) : G C H A Ls (.inRegion ops (i :: rest) :: k) :=
  G.val ho hw rfl hn (fun a w ha _ => by
    subst hr
    simp only [execOp, ha.eval hx, ha.eval hy, Sem.run_bind, run_eqGuard_int, Result.andThen_ok, run_div C.P w op kd m n t hop h0, Sem.run_pure]) g
theorem G.shift {op : BinOp} {x y : Operand} {t t' : TypeId} {kd kd' : IntKind} {m n r : Int} (ho : ops[i]? = some { dst := some d, op := .binOp op t x y t', type := ty, pos := ps, after := af, guard := gd }) (hw : wantedA A ops gd = some true) (hn : Nat.blt d C.n = true)
    (hx : ev A x = some (.int kd m)) (hy : ev A y = some (.int kd' n)) (hop : isShift op = true) (h0 : 0 ≤ n) (hr : arith op kd m n = r)
    (g : G C H ((d, .int kd r) :: A) Ls (.inRegion ops rest :: k)) : G C H A Ls (.inRegion ops (i :: rest) :: k) :=
  G.val ho hw rfl hn (fun a w ha _ => by
    subst hr
    simp only [execOp, ha.eval hx, ha.eval hy, Sem.run_bind, run_eqGuard_int, Result.andThen_ok, run_shift C.P w op kd kd' m n t hop h0, Sem.run_pure]) g
/-- what a comparison of numbers says -/
def cmpP : BinOp → Int → Int → Prop
  | .eql, x, y => x = y
  | .neq, x, y => x ≠ y
  | .lss, x, y => x < y
  | .leq, x, y => x ≤ y
  | .gtr, x, y => y < x
  | _, x, y => y ≤ x
def isCmp : BinOp → Bool
  | .eql | .neq | .lss | .leq | .gtr | .geq => true
  | _ => false
theorem run_cmp (P : Program) (w : World) (op : BinOp) (k : IntKind) (x y : Int) (t : TypeId) (h : isCmp op = true) (p : Prop) [Decidable p] (hp : cmpP op x y ↔ p) : (binOp op t (.int k x) (.int k y)).run P w = .ok (.bool (decide p)) w := by
  cases op <;> simp [isCmp] at h <;> simp [binOp, Op.intCmp] <;> first | exact hp | (rw [Bool.eq_iff_iff]; simp; exact hp)
theorem G.cmp {op : BinOp} {x y : Operand} {t t' : TypeId} {kd : IntKind} {m n : Int} (p : Prop) [Decidable p] (ho : ops[i]? = some { dst := some d, op := .binOp op t x y t', type := ty, pos := ps, after := af, guard := gd }) (hw : wantedA A ops gd = some true) (hn : Nat.blt d C.n = true)
    (hx : ev A x = some (.int kd m)) (hy : ev A y = some (.int kd n)) (hop : isCmp op = true) (hp : cmpP op m n ↔ p)
    (g : G C H ((d, .bool (decide p)) :: A) Ls (.inRegion ops rest :: k)) : G C H A Ls (.inRegion ops (i :: rest) :: k) :=
  G.val ho hw rfl hn (fun a w ha _ => by
    simp only [execOp, ha.eval hx, ha.eval hy, Sem.run_bind, run_eqGuard_int, Result.andThen_ok, run_cmp C.P w op kd m n t hop p hp, Sem.run_pure]) g
theorem G.not {x : Operand} {t : TypeId} {b c : Bool} (ho : ops[i]? = some { dst := some d, op := .unOp .not t x, type := ty, pos := ps, after := af, guard := gd }) (hw : wantedA A ops gd = some true) (hn : Nat.blt d C.n = true)
    (hx : ev A x = some (.bool b)) (hc : (!b) = c)
    (g : G C H ((d, .bool c) :: A) Ls (.inRegion ops rest :: k)) : G C H A Ls (.inRegion ops (i :: rest) :: k) :=
  G.val ho hw rfl hn (fun a w ha _ => by simp [execOp, ha.eval hx, Op.unary, hc]) g
theorem G.neg {x : Operand} {t : TypeId} {kd : IntKind} {m r : Int} (ho : ops[i]? = some { dst := some d, op := .unOp .neg t x, type := ty, pos := ps, after := af, guard := gd }) (hw : wantedA A ops gd = some true) (hn : Nat.blt d C.n = true)
    (hx : ev A x = some (.int kd m)) (hr : wr kd (0 - m) = r)
    (g : G C H ((d, .int kd r) :: A) Ls (.inRegion ops rest :: k)) : G C H A Ls (.inRegion ops (i :: rest) :: k) :=
  G.val ho hw rfl hn (fun a w ha _ => by simp [execOp, ha.eval hx, Op.unary, Op.intArith, wrap_wr, ← hr]) g
theorem G.compl {x : Operand} {t : TypeId} {kd : IntKind} {m r : Int} (ho : ops[i]? = some { dst := some d, op := .unOp .xor t x, type := ty, pos := ps, after := af, guard := gd }) (hw : wantedA A ops gd = some true) (hn : Nat.blt d C.n = true)
    (hx : ev A x = some (.int kd m)) (hr : bitsI .xor kd (if kd.signed then -1 else kd.max) m = r)
    (g : G C H ((d, .int kd r) :: A) Ls (.inRegion ops rest :: k)) : G C H A Ls (.inRegion ops (i :: rest) :: k) :=
  G.val ho hw rfl hn (fun a w ha _ => by simp [execOp, ha.eval hx, Op.unary, Op.intBits, bitsI, wrap_wr, ← hr]) g
theorem G.conv {x : Operand} {s t : TypeId} {kd kd' : IntKind} {ds : TypeDesc} {m r : Int} (ho : ops[i]? = some { dst := some d, op := .convert s t x, type := ty, pos := ps, after := af, guard := gd }) (hw : wantedA A ops gd = some true) (hn : Nat.blt d C.n = true)
    (hx : ev A x = some (.int kd m)) (hs : C.P.underlying s = some ds) (ht : C.P.underlying t = some (.int kd')) (hr : wr kd' m = r)
    (g : G C H ((d, .int kd' r) :: A) Ls (.inRegion ops rest :: k)) : G C H A Ls (.inRegion ops (i :: rest) :: k) :=
  G.val ho hw rfl hn (fun a w ha _ => by
    simp only [execOp, ha.eval hx, convert, Sem.run_bind, run_underlying hs, run_underlying ht, Result.andThen_ok]
    simp [Conv.intToInt, wrap_wr, ← hr]) g
/-! bytes: numbers from 0 to 255, as Lean's UInt8 -/
def u8of (m : Int) : UInt8 := UInt8.ofNat (m % 256).toNat
theorem u8of_toNat (m : Int) : ((u8of m).toNat : Int) = m % 256 := by
  unfold u8of
  rw [UInt8.toNat_ofNat']
  omega
theorem G.toU8 {x : Operand} {s t : TypeId} {kd : IntKind} {ds : TypeDesc} {m : Int} {b : UInt8} (ho : ops[i]? = some { dst := some d, op := .convert s t x, type := ty, pos := ps, after := af, guard := gd }) (hw : wantedA A ops gd = some true) (hn : Nat.blt d C.n = true)
    (hx : ev A x = some (.int kd m)) (hs : C.P.underlying s = some ds) (ht : C.P.underlying t = some (.int .u8)) (hr : u8of m = b)
    (g : G C H ((d, u8V b) :: A) Ls (.inRegion ops rest :: k)) : G C H A Ls (.inRegion ops (i :: rest) :: k) :=
  G.conv ho hw hn hx hs ht (r := (b.toNat : Int)) (by rw [← hr, u8of_toNat]; rfl) g
def u8arith : BinOp → UInt8 → UInt8 → UInt8
  | .add, x, y => x + y
  | .sub, x, y => x - y
  | .mul, x, y => x * y
  | .and, x, y => x &&& y
  | .or, x, y => x ||| y
  | .xor, x, y => x ^^^ y
  | _, x, y => x &&& ~~~y
theorem u8bits (x : UInt8) : BitVec.ofInt 8 (x.toNat : Int) = x.toBitVec := by
  apply BitVec.eq_of_toNat_eq; simp
theorem arith_u8 (op : BinOp) (x y : UInt8) (h : isArith op = true) : arith op .u8 (x.toNat : Int) (y.toNat : Int) = ((u8arith op x y).toNat : Int) := by
  have hx : x.toNat < 256 := x.toNat_lt
  have hy : y.toNat < 256 := y.toNat_lt
  cases op <;> simp [isArith] at h
  · simp only [arith, wr, wu8, u8arith, UInt8.toNat_add]; omega
  · simp only [arith, wr, wu8, u8arith, UInt8.toNat_sub]; omega
  · simp only [arith, wr, wu8, u8arith, UInt8.toNat_mul]; simp only [Int.natCast_emod, Int.natCast_mul]; rfl
  · show ((BitVec.ofInt 8 (x.toNat : Int) &&& BitVec.ofInt 8 (y.toNat : Int)).toNat : Int) % 256 = _
    rw [u8bits, u8bits, ← UInt8.toBitVec_and, UInt8.toNat_toBitVec]
    have := (x &&& y).toNat_lt
    show ((x &&& y).toNat : Int) % 256 = ((x &&& y).toNat : Int)
    omega
  · show ((BitVec.ofInt 8 (x.toNat : Int) ||| BitVec.ofInt 8 (y.toNat : Int)).toNat : Int) % 256 = _
    rw [u8bits, u8bits, ← UInt8.toBitVec_or, UInt8.toNat_toBitVec]
    have := (x ||| y).toNat_lt
    show ((x ||| y).toNat : Int) % 256 = ((x ||| y).toNat : Int)
    omega
  · show ((BitVec.ofInt 8 (x.toNat : Int) ^^^ BitVec.ofInt 8 (y.toNat : Int)).toNat : Int) % 256 = _
    rw [u8bits, u8bits, ← UInt8.toBitVec_xor, UInt8.toNat_toBitVec]
    have := (x ^^^ y).toNat_lt
    show ((x ^^^ y).toNat : Int) % 256 = ((x ^^^ y).toNat : Int)
    omega
  · show ((BitVec.ofInt 8 (x.toNat : Int) &&& ~~~ BitVec.ofInt 8 (y.toNat : Int)).toNat : Int) % 256 = _
    rw [u8bits, u8bits, ← UInt8.toBitVec_not, ← UInt8.toBitVec_and, UInt8.toNat_toBitVec]
    have := (x &&& ~~~y).toNat_lt
    show ((x &&& ~~~y).toNat : Int) % 256 = ((x &&& ~~~y).toNat : Int)
    omega
theorem G.bin8 {op : BinOp} {x y : Operand} {t t' : TypeId} {m n r : UInt8} (ho : ops[i]? = some { dst := some d, op := .binOp op t x y t', type := ty, pos := ps, after := af, guard := gd }) (hw : wantedA A ops gd = some true) (hn : Nat.blt d C.n = true)
    (hx : ev A x = some (.int .u8 (m.toNat : Int))) (hy : ev A y = some (.int .u8 (n.toNat : Int))) (hop : isArith op = true) (hr : u8arith op m n = r)
    (g : G C H ((d, u8V r) :: A) Ls (.inRegion ops rest :: k)) : G C H A Ls (.inRegion ops (i :: rest) :: k) :=
  G.bin ho hw hn hx hy hop (r := (r.toNat : Int)) (by rw [arith_u8 op m n hop, hr]) g
end
/-! ### What a plain function's steps tell -/
theorem ifT {α : Type} {p : Prop} [Decidable p] {x y : Option α} {r : α} (h : (if p then x else y) = some r) (c : p) : x = some r := by rwa [if_pos c] at h
theorem ifF {α : Type} {p : Prop} [Decidable p] {x y : Option α} {r : α} (h : (if p then x else y) = some r) (c : ¬ p) : y = some r := by rwa [if_neg c] at h
theorem ifFB {α : Type} {b : Bool} {x y : Option α} {r : α} (h : (if b = true then x else y) = some r) (c : b = false) : y = some r := by rwa [if_neg (by rw [c]; simp)] at h
theorem guardS {α : Type} {p : Prop} [Decidable p] {x : Option α} {r : α} (h : (if p then x else none) = some r) : p ∧ x = some r := by
  by_cases c : p
  · exact ⟨c, ifT h c⟩
  · exact absurd (ifF h c) (by simp)
theorem bindS {α β : Type} {a : Option β} {f : β → Option α} {r : α} (h : a.bind f = some r) : ∃ t, a = some t ∧ f t = some r := by
  cases a with
  | none => cases h
  | some t => exact ⟨t, rfl, h⟩
/-- what a comparison of bytes says -/
theorem c8_eql (a b : UInt8) : cmpP .eql (a.toNat : Int) (b.toNat : Int) ↔ a = b := by
  simp only [cmpP]; exact ⟨fun h => UInt8.toNat_inj.1 (by omega), fun h => by rw [h]⟩
theorem c8_neq (a b : UInt8) : cmpP .neq (a.toNat : Int) (b.toNat : Int) ↔ a ≠ b := not_congr (c8_eql a b)
theorem c8_lss (a b : UInt8) : cmpP .lss (a.toNat : Int) (b.toNat : Int) ↔ a < b := by simp only [cmpP, UInt8.lt_iff_toNat_lt]; omega
theorem c8_leq (a b : UInt8) : cmpP .leq (a.toNat : Int) (b.toNat : Int) ↔ a ≤ b := by simp only [cmpP, UInt8.le_iff_toNat_le]; omega
theorem c8_gtr (a b : UInt8) : cmpP .gtr (a.toNat : Int) (b.toNat : Int) ↔ b < a := by simp only [cmpP, UInt8.lt_iff_toNat_lt]; omega
theorem c8_geq (a b : UInt8) : cmpP .geq (a.toNat : Int) (b.toNat : Int) ↔ b ≤ a := by simp only [cmpP, UInt8.le_iff_toNat_le]; omega
attribute [irreducible] wi64 wi32 wi16 wi8 wu64 wu32 wu16 wu8
end Go.Proofs.Ytpffemcpfddjbaa.K
