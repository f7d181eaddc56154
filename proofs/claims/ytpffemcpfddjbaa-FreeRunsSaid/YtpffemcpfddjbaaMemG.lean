/- The judgement 'G': range over functions (own text). -/
import Derived.Test.YtpffemcpfddjbaaMemF
import Derived.RangeFuncIn
import Derived.RangeFuncRecord
namespace Go.Proofs.Ytpffemcpfddjbaa.K
open Go
/-- what a loop over a function knows -/
structure LpI where
  f : FuncId
  n : Nat
  params : Array Tmp
  assign : Code
  body : Code
  dfr : Nat
  A : List (Nat × Value)
def LpI.row (Z : LpI) (tmps : Array Value) (st : LoopState) (pend : Option Code) : Loop :=
  { state := st, pending := pend, fn := Z.f, tmps := tmps, params := Z.params, assign := Z.assign, body := Z.body, defers := Z.dfr }
def LP (l : Nat) (st : LoopState) (pend : Option Code) (Z : LpI) : Res where
  holds _ h := ∃ tmps : Array Value, tmps.size = Z.n ∧ (∀ i v, look Z.A i = some v → i < Z.n ∧ tmps.getD i undef = v) ∧ h = PH.one l (.loop (Z.row tmps st pend))
  mono := fun _ h => h
def DF (D : Nat) : Res where
  holds _ h := h = PH.one D (.deferred (some []))
  mono := fun _ h => h
theorem Free.lp {l : Nat} {st : LoopState} {pend : Option Code} {Z : LpI} : ∀ H H' h, (LP l st pend Z).holds H h → (LP l st pend Z).holds H' h := fun _ _ _ h => h
theorem Free.df {D : Nat} : ∀ H H' h, (DF D).holds H h → (DF D).holds H' h := fun _ _ _ h => h
def markD (D : Nat) : Deferred := { target := .collected D, args := #[] }
def Cx.with (C : Cx) (ds : List Deferred) : Cx := ⟨C.P, C.f, C.fn, C.R, C.O, C.n, ⟨C.m.ro, ds⟩⟩
theorem ph_get {w : World} {b : Nat} {o : Obj} (h : ph w b = some o) : w.heap[b]? = some o := h
section
variable {C : Cx} {H : PH} {A : List (Nat × Value)} {Ls L M : List Res} {k : List Item}
variable {ops : Array Oper} {i : Nat} {rest : List Nat} {dst : Option Nat} {d : Nat} {ty : TypeId} {ps : String} {af : Array Edge} {gd : Option (Nat × Bool)}
/-- one block of one's own, whatever stands in it, turned -/
theorem St.turn1 {w O : World} {g : Nat} {o o' : Obj} {r r' : Res} (s : St w O H (r :: L)) (hr : ∀ h, r.holds H h → h = PH.one g (match h g with | some x => x | none => o)) (hr' : r'.holds H (PH.one g o')) : St (turned w g o') O H (r' :: L) := by
  refine s.turn rfl rfl rfl fun h hh hle => ?_
  have e := hr h hh
  have hg : ∃ x, h = PH.one g x := ⟨_, e⟩
  obtain ⟨x, rfl⟩ := hg
  have hx : ph w g = some x := PH.le_one hle
  have hlt : g < w.heap.size := by
    have h2 : w.heap[g]? = some x := hx
    exact (Array.getElem?_eq_some_iff.1 h2).1
  refine ⟨PH.one g o', hr', fun b => by simp only [PH.one]; split <;> simp, PH.one_le ?_, fun b hb => ?_⟩
  · show (w.heap.setIfInBounds g o')[g]? = some o'
    rw [Array.getElem?_setIfInBounds_self_of_lt hlt]
  · have hne : g ≠ b := by
      rintro rfl
      simp [PH.one] at hb
    show (w.heap.setIfInBounds g o')[b]? = w.heap[b]?
    rw [Array.getElem?_setIfInBounds_ne hne]
theorem G.rangeFunc {x : Operand} {params : Array Tmp} {assign body : Code} {gf : FuncId} {gn : Func} {c : Code} {fs cs : Array Value} {n' : Nat} {A' : Nat → List (Nat × Value)} (hro : C.m.ro = none)
    (hx : ev A x = some (.func (.func gf) fs cs)) (hA : ∀ l, idx 0 (fs.toList ++ [.func (.yield l) #[] #[]] ++ cs.toList) = A' l) (hok : CallOk C.P gf) (hf : C.P.funcs[gf]? = some gn) (hb : gn.body = some c) (hnt : gn.ntmps = n') (hl : Nat.ble (fs.toList.length + 1 + cs.toList.length) n' = true)
    (g : ∀ (l D : Nat) (Z : LpI), Z = ⟨C.f, C.n, params, assign, body, D, A⟩ → ∀ R', (∀ H' v L', G (C.with (markD D :: C.m.ds)) H' A L' (.endRangeFunc l :: k) → ∀ w, St w C.O H' L' → R' (.returned v) w) →
      G ⟨C.P, gf, gn, R', C.O, n', .plain⟩ H (A' l) (LP l .ready none Z :: DF D :: Ls) [.code c]) : G C H A Ls (.code (.rangeFunc x params assign body) :: k) := by
  intro a w ha hs
  have hst1 : St (w.alloc (.deferred (some []))) C.O H (DF w.heap.size :: Ls) := hs.alloc _ rfl
  let Z : LpI := ⟨C.f, C.n, params, assign, body, w.heap.size, A⟩
  have hst2 : St ((w.alloc (.deferred (some []))).alloc (.loop (Z.row a.tmps .ready none))) C.O H (LP (w.alloc (.deferred (some []))).heap.size .ready none Z :: DF w.heap.size :: Ls) :=
    hst1.alloc _ ⟨a.tmps, ha.size, ha.at_, rfl⟩
  generalize hl0 : (w.alloc (.deferred (some []))).heap.size = l at hst2
  generalize hw2 : (w.alloc (.deferred (some []))).alloc (.loop (Z.row a.tmps .ready none)) = w2 at hst2
  have henter : ∀ fn, fn = C.f → (Instr.enterLoop fn a.tmps params assign body none).run C.P w = .ok (l, [markD w.heap.size]) w2 := by
    rintro fn rfl
    rw [run_enterLoop_outer, ← hl0, ← hw2, World.size_alloc]
    rfl
  have hgw := g l w.heap.size Z rfl (fun e w3 => ∃ v, e = .returned v ∧ Goes C.P C.f C.R ⟨C.m.ro, markD w.heap.size :: C.m.ds⟩ (.endRangeFunc l :: k) a w3)
    (fun H' v L' gg w3 hst3 => ⟨v, rfl, gg a w3 ha hst3⟩)
  have hcall := Goes.calls (R := fun e w3 => ∃ v, e = .returned v ∧ Goes C.P C.f C.R ⟨C.m.ro, markD w.heap.size :: C.m.ds⟩ (.endRangeFunc l :: k) a w3) hf hb (args := (fs.toList ++ [Value.func (.yield l) #[] #[]] ++ cs.toList).toArray)
    (hgw _ w2 (Slots.begin hnt (hA l) (by have := Nat.le_of_ble_eq_true hl; simp [Nat.ble_eq] at this ⊢; omega)) hst2)
  have hev : a.eval x = .func (.func gf) fs cs := ha.eval hx
  have hargs : fs ++ #[Value.func (.yield l) #[] #[]] ++ cs = (fs.toList ++ [Value.func (.yield l) #[] #[]] ++ cs.toList).toArray := by apply Array.ext'; simp
  have hmp : (#[Operand.const (.func (.yield l) #[] #[])] : Array Operand).map a.eval = #[Value.func (.yield l) #[] #[]] := by rw [List.map_toArray]; rfl
  have key : ∀ (b : Frame) (cs' : List Frame), b.fn = C.f → b.roundOf = none → ∃ w3, Goes C.P C.f C.R ⟨C.m.ro, markD w.heap.size :: C.m.ds⟩ (.endRangeFunc l :: k) a w3 ∧
      Steps C.P (lone (b.atR (wd a C.m.ds) (.code (.rangeFunc x params assign body) :: k)) cs' w) (lone (b.atR (wd a (markD w.heap.size :: C.m.ds)) (.endRangeFunc l :: k)) cs' w3) := by
    intro b cs' hbf hbr
    have hstep := stepR_rangeFunc (P := C.P) (b := b) (a := wd a C.m.ds) (k := k) (cs := cs') (w := w) (g := x) (ps := params) (assign := assign) (body := body) (l := l) (mark := [markD w.heap.size]) (w₁ := w2) (w₁' := w2) (w₂ := w2)
      (d := { target := .fn (.func gf) cs, args := fs ++ #[Value.func (.yield l) #[] #[]] }) (f := gf) (args := fs ++ #[Value.func (.yield l) #[] #[]] ++ cs)
      (by rw [hbr]; exact henter b.fn hbf) (by rw [wd_eval']; simp only [resolve, rangeCall, hmp, hev, Deferred.ofValue]; rfl) (by simp [invoke, hok _ w2])
    rw [hargs] at hstep
    have hdef : (wd a C.m.ds).defers = C.m.ds := by show a.defers ++ C.m.ds = C.m.ds; rw [ha.defers]; rfl
    have hfr : ({ wd a C.m.ds with defers := [markD w.heap.size] ++ (wd a C.m.ds).defers } : Act) = wd a (markD w.heap.size :: C.m.ds) := by
      rw [hdef]
      show _ = ({ a with defers := a.defers ++ _ } : Act)
      rw [ha.defers]; rfl
    rw [hfr] at hstep
    obtain ⟨e, w3, fr, ⟨v, rfl, gg⟩, hsteps, _, hleave⟩ := hcall (b.atR (wd a (markD w.heap.size :: C.m.ds)) (.inRangeFunc l :: k) :: cs')
    refine ⟨w3, gg, .head hstep (Steps.trans hsteps (.one ?_))⟩
    rw [← finish_atR_inRangeFunc l v]
    exact step_leave_returned hleave
  unfold Goes
  rw [hro]
  intro b cs' hbf hbk hbr
  obtain ⟨w3, gg, hs3⟩ := key b cs' hbf hbr
  unfold Goes at gg
  rw [hro] at gg
  obtain ⟨e, w4, fr, hR, hc, hfn, hlv⟩ := gg b cs' hbf hbk hbr
  exact ⟨e, w4, fr, hR, hc.of_steps hs3, hfn, hlv⟩
/-- the loop's function has returned -/
theorem G.endRangeFunc {l : Nat} {st : LoopState} {pend : Option Code} {Z : LpI} (hb : st ≠ .busy) (g : G C H A Ls ((pend.map Item.code).toList ++ k)) : G C H A (LP l st pend Z :: Ls) (.endRangeFunc l :: k) := by
  intro a w ha hs
  obtain ⟨h, ⟨tmps, h1, h2, rfl⟩, hle⟩ := hs.nth (j := 0) rfl
  have hget : w.heap[l]? = some (.loop (Z.row tmps st pend)) := PH.le_one hle
  have hr := run_endLoop (P := C.P) hget hb
  refine Goes.of_step (fun b cs => stepR_endRangeFunc hr) (g a _ ha ?_)
  refine St.drop (r := LP l .exhausted pend Z) ?_
  exact hs.turn1 (o := .loop (Z.row tmps st pend)) (fun h ⟨t, _, _, e⟩ => by subst e; simp [PH.one]) ⟨tmps, h1, h2, rfl⟩
def zipA : List Nat → List Value → List (Nat × Value) → List (Nat × Value)
  | p :: ps, v :: vs, A => zipA ps vs ((p, v) :: A)
  | _, _, A => A
theorem foldl_zip {n : Nat} : ∀ (ps : List Nat) (vs : List Value) (tmps : Array Value) (A : List (Nat × Value)), ps.all (fun p => Nat.blt p n) = true → tmps.size = n → (∀ i v, look A i = some v → i < n ∧ tmps.getD i undef = v) →
    ((ps.zip vs).foldl (fun (t : Array Value) (x : Nat × Value) => t.setIfInBounds x.1 x.2) tmps).size = n ∧ ∀ i v, look (zipA ps vs A) i = some v → i < n ∧ ((ps.zip vs).foldl (fun (t : Array Value) (x : Nat × Value) => t.setIfInBounds x.1 x.2) tmps).getD i undef = v
  | [], _, tmps, A, _, h1, h2 => ⟨h1, h2⟩
  | _ :: _, [], tmps, A, _, h1, h2 => ⟨h1, h2⟩
  | p :: ps, v :: vs, tmps, A, hp, h1, h2 => by
    simp only [List.all_cons, Bool.and_eq_true, Nat.blt_eq] at hp
    simp only [List.zip_cons_cons, List.foldl_cons, zipA]
    refine foldl_zip ps vs (tmps.setIfInBounds p v) ((p, v) :: A) hp.2 (by simp [h1]) fun i u hu => ?_
    simp only [look] at hu
    by_cases hi : i = p
    · subst hi
      rw [if_pos rfl] at hu
      injection hu with hu
      subst hu
      exact ⟨hp.1, by simp [Array.getD_eq_getD_getElem?, h1, hp.1]⟩
    · rw [if_neg hi] at hu
      obtain ⟨k1, k2⟩ := h2 i u hu
      refine ⟨k1, ?_⟩
      rw [← k2]
      simp only [Array.getD_eq_getD_getElem?]
      rw [Array.getElem?_setIfInBounds_ne (fun e => hi e.symm)]
/-- a round: yield is called -/
theorem G.yieldD {x : Operand} {l : Nat} {Z : LpI} {f : FuncId} {n D : Nat} {params : Array Tmp} {assign body : Code} {A0 A' : List (Nat × Value)} {fn : Func} {args : Array Operand} {ats : Array TypeId} {vs : List Value} {st : LoopState} {pend : Option Code} (hZ : Z = ⟨f, n, params, assign, body, D, A0⟩)
    (ho : ops[i]? = some { dst := dst, op := .call { callee := .value x, args := args, argTypes := ats }, type := ty, pos := ps, after := af, guard := gd }) (hw : wantedA A ops gd = some true) (hn : dOk C.n dst = true)
    (hx : ev A x = some (.func (.yield l) #[] #[])) (hargs : evs A args.toList = some vs) (hps : params.toList.all (fun p => Nat.blt p n) = true) (hlen : vs.length = params.toList.length) (hA : zipA params.toList vs A0 = A')
    (g : ∀ R', (∀ H' v L', G C H' (putA dst v A) L' (.inRegion ops rest :: k) → ∀ w, St w C.O H' L' → R' (.returned v) w) →
      G ⟨C.P, f, fn, R', C.O, n, ⟨some l, []⟩⟩ H A' (LP l st pend Z :: L) [.code assign, .beginRound, .code body]) : G C H A (LP l st pend Z :: L) (.inRegion ops (i :: rest) :: k) := by
  subst hZ
  intro a w ha hs
  obtain ⟨h, ⟨tmps, h1, h2, rfl⟩, hle⟩ := hs.nth (j := 0) rfl
  have hget : w.heap[l]? = some (.loop (LpI.row ⟨f, n, params, assign, body, D, A0⟩ tmps st pend)) := PH.le_one hle
  have hmap : args.map a.eval = vs.toArray := by rw [← ha.evals hargs]; exact (List.map_toArray ..).symm ▸ rfl
  have hy := run_yield (P := C.P) (args := vs.toArray) hget (by simpa [LpI.row] using hlen)
  have hexec : (execOp a.eval { dst := dst, op := .call { callee := .value x, args := args, argTypes := ats }, type := ty, pos := ps, after := af, guard := gd }).run C.P w =
      .ok (.round l f ((params.zip vs.toArray).foldl (fun t (x : Nat × Value) => t.setIfInBounds x.1 x.2) tmps) assign body) w := by
    simp only [execOp, resolve, hmap, Sem.run_bind, ha.eval hx, Deferred.ofValue, Sem.run_pure, Result.andThen_ok, invoke]
    have e : (#[] : Array Value) ++ vs.toArray = vs.toArray := by simp
    rw [e, hy]
    rfl
  have hz := foldl_zip (n := n) params.toList vs tmps A0 hps h1 h2
  have hfold : (params.zip vs.toArray).foldl (fun (t : Array Value) (x : Nat × Value) => t.setIfInBounds x.1 x.2) tmps = (params.toList.zip vs).foldl (fun (t : Array Value) (x : Nat × Value) => t.setIfInBounds x.1 x.2) tmps := by
    rw [← Array.foldl_toList]; simp
  rw [hfold] at hexec
  have hgw := g (fun e w3 => ∃ v, e = .returned v ∧ Goes C.P C.f C.R C.m (.inRegion ops rest :: k) (a.put dst v) w3) (fun H' v L' gg w3 hst3 => ⟨v, rfl, gg _ w3 (ha.putD hn v) hst3⟩)
    { tmps := (params.toList.zip vs).foldl (fun (t : Array Value) (x : Nat × Value) => t.setIfInBounds x.1 x.2) tmps, defers := [] } w ⟨hz.1, rfl, by rw [← hA]; exact hz.2⟩ hs
  refine Goes.via fun b cs hb hk hro => ?_
  have hg := stepGR_op (P := C.P) (b := b) (a := wd a C.m.ds) (k := k) (cs := cs) (w := w) (rest := rest) ho (wanted_of ha hw)
  let b2 : Frame := { (default : Frame) with fn := f, kind := .normal, roundOf := some l }
  obtain ⟨v, w3, ⟨v', hv, gg⟩, hsteps⟩ := hgw b2 (b.atR (wd a C.m.ds) (.inRegion ops (i :: rest) :: k)) cs rfl rfl rfl
  injection hv with hv
  subst hv
  have henter : step C.P (lone (b.atR (wd a C.m.ds) (.inRegion ops (i :: rest) :: k)) cs w) =
      .next (lone (b2.atR (wd { tmps := (params.toList.zip vs).foldl (fun (t : Array Value) (x : Nat × Value) => t.setIfInBounds x.1 x.2) tmps, defers := [] } []) [.code assign, .beginRound, .code body]) (b.atR (wd a C.m.ds) (.inRegion ops (i :: rest) :: k) :: cs) w) := by
    refine step_lone_go ?_
    rw [hg, wd_eval']
    simp [stepG.apply, sem_of hexec (fun d h => by cases h), Frame.atR, Frame.round, wd, b2]
  have hfin : (b.atR (wd a C.m.ds) (.inRegion ops (i :: rest) :: k)).finish v = b.atR (wd (a.put dst v) C.m.ds) (.inRegion ops rest :: k) := by
    rw [Frame.finish_atR, ho, ← wd_put]; rfl
  rw [hfin] at hsteps
  exact ⟨_, _, w3, gg, .head henter hsteps⟩
theorem G.beginRound {l : Nat} {pend : Option Code} {Z : LpI} (hro : C.m.ro = some l) (g : G C H A (LP l .busy pend Z :: L) k) : G C H A (LP l .ready pend Z :: L) (.beginRound :: k) := by
  intro a w ha hs
  obtain ⟨h, ⟨tmps, h1, h2, rfl⟩, hle⟩ := hs.nth (j := 0) rfl
  have hget : w.heap[l]? = some (.loop (Z.row tmps .ready pend)) := PH.le_one hle
  have hr := run_beginRound (P := C.P) hget rfl
  refine Goes.via fun b cs hb hk hro' => ?_
  refine ⟨_, a, _, g a _ ha ?_, .one (stepR_beginRound (by rw [hro', hro]) hr)⟩
  exact hs.turn1 (o := .loop (Z.row tmps .ready pend)) (fun h ⟨t, _, _, e⟩ => by subst e; simp [PH.one]) ⟨tmps, h1, h2, rfl⟩
/-- a round ends: the loop goes on -/
theorem G.roundEnd {l : Nat} {pend : Option Code} {Z : LpI} {st : LoopState} (hro : C.m.ro = some l) (h : ∀ w, St w C.O H (LP l .ready none Z :: L) → C.R (.returned (.bool true)) w) : G C H A (LP l st pend Z :: L) [] := by
  intro a w ha hs
  obtain ⟨hh, ⟨tmps, h1, h2, rfl⟩, hle⟩ := hs.nth (j := 0) rfl
  have hget : w.heap[l]? = some (.loop (Z.row tmps st pend)) := PH.le_one hle
  have hr := run_endRound (P := C.P) none hget
  unfold Goes
  rw [hro]
  intro b c cs hb hk hrb
  refine ⟨_, _, h _ ?_, .one (stepR_round_end hrb hk hr)⟩
  exact hs.turn1 (o := .loop (Z.row tmps st pend)) (fun h ⟨t, _, _, e⟩ => by subst e; simp [PH.one]) ⟨tmps, h1, h2, rfl⟩
/-- a round ends with return -/
theorem G.roundRet {l : Nat} {pend : Option Code} {Z : LpI} {st : LoopState} (hro : C.m.ro = some l) (h : ∀ w, St w C.O H (LP l .done (some .ret) Z :: L) → C.R (.returned (.bool false)) w) : G C H A (LP l st pend Z :: L) (.code .ret :: k) := by
  intro a w ha hs
  obtain ⟨hh, ⟨tmps, h1, h2, rfl⟩, hle⟩ := hs.nth (j := 0) rfl
  have hget : w.heap[l]? = some (.loop (Z.row tmps st pend)) := PH.le_one hle
  have hr := run_endRound (P := C.P) (some .ret) hget
  unfold Goes
  rw [hro]
  intro b c cs hb hk hrb
  refine ⟨_, _, h _ ?_, .one (stepR_round_ret hrb hk hr)⟩
  exact hs.turn1 (o := .loop (Z.row tmps st pend)) (fun h ⟨t, _, _, e⟩ => by subst e; simp [PH.one]) ⟨tmps, h1, h2, rfl⟩
/-- a round ends with a jump out of it -/
theorem G.roundExit {l id : Nat} {pend : Option Code} {Z : LpI} {st : LoopState} (hro : C.m.ro = some l) (hx : exitTo id k = none) (h : ∀ w, St w C.O H (LP l .done (some (.exit id)) Z :: L) → C.R (.returned (.bool false)) w) : G C H A (LP l st pend Z :: L) (.code (.exit id) :: k) := by
  intro a w ha hs
  obtain ⟨hh, ⟨tmps, h1, h2, rfl⟩, hle⟩ := hs.nth (j := 0) rfl
  have hget : w.heap[l]? = some (.loop (Z.row tmps st pend)) := PH.le_one hle
  have hr := run_endRound (P := C.P) (some (.exit id)) hget
  unfold Goes
  rw [hro]
  intro b c cs hb hk hrb
  refine ⟨_, _, h _ ?_, .one (stepR_round_exit hrb hk hx hr)⟩
  exact hs.turn1 (o := .loop (Z.row tmps st pend)) (fun h ⟨t, _, _, e⟩ => by subst e; simp [PH.one]) ⟨tmps, h1, h2, rfl⟩
/-- the marks of loops are taken away where the function ends -/
theorem unmark {P : Program} {w O : World} {D : Nat} {fr : Frame} {cs : List Frame} {ds : List Deferred} (hm : fr.mode = .returning) (hd : fr.defers = markD D :: ds) (hs : St w O H (DF D :: L)) :
    ∃ w', step P (lone fr cs w) = .next (lone { fr with defers := ds } cs w') ∧ St w' O H L := by
  obtain ⟨h, hh, hle⟩ := hs.nth (j := 0) rfl
  have hh' : h = PH.one D (.deferred (some [])) := hh
  subst hh'
  have hget : w.heap[D]? = some (.deferred (some [])) := PH.le_one hle
  have hr := run_takeDeferred (P := P) hget
  refine ⟨w.putObj D (.deferred none), step_lone_go (by simp [stepG, unwind, hm, hd, markD, Sem.runT_eq, hr, GStep.bare_after]), ?_⟩
  have := hs.turn1 (o := .deferred (some [])) (o' := .deferred none) (r' := ⟨fun _ h => h = PH.one D (.deferred none), fun _ h => h⟩) (fun h e => by have e' : h = PH.one D (.deferred (some [])) := e; subst e'; simp [PH.one]) rfl
  exact this.drop
end
end Go.Proofs.Ytpffemcpfddjbaa.K
