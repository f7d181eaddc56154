/- The judgement 'G': maps whose keys are numbers; ends of functions that ranged over functions (own text). -/
import Derived.Test.YtpffemcpfddjbaaMemG
namespace Go.Proofs.Ytpffemcpfddjbaa.K
open Go
section
variable {C : Cx} {H : PH} {A : List (Nat × Value)} {Ls L M : List Res} {k : List Item}
theorem unmarks {P : Program} {O : World} : ∀ {Ds : List Nat} {fr : Frame} {cs : List Frame} {w : World}, fr.mode = .returning → fr.defers = Ds.map markD → St w O H (Ds.map DF ++ L) →
    ∃ w', Steps P (lone fr cs w) (lone { fr with defers := [] } cs w') ∧ St w' O H L
  | [], fr, cs, w, _, hd, hs => by
    have hd' : fr.defers = [] := hd
    refine ⟨w, ?_, hs⟩
    have e : ({ fr with defers := [] } : Frame) = fr := by rw [← hd']
    rw [e]
    exact Steps.refl _ _
  | D :: Ds, fr, cs, w, hm, hd, hs => by
    obtain ⟨w1, h1, s1⟩ := unmark (P := P) (cs := cs) (ds := Ds.map markD) hm hd hs
    obtain ⟨w2, h2, s2⟩ := unmarks (P := P) (Ds := Ds) (fr := { fr with defers := Ds.map markD }) (cs := cs) hm rfl s1
    exact ⟨w2, .head h1 h2, s2⟩
theorem G.leaveM {Ds : List Nat} {specs : List RS} {rs : List ResultVar} {stk : List Item} (hm : C.m = ⟨none, Ds.map markD⟩) (hstk : stk = [] ∨ ∃ k, stk = .code .ret :: k) (hf : C.P.funcs[C.f]? = some C.fn) (hr : C.fn.results.toList = rs) (hsrc : RS.src C H A L specs rs)
    (h : ∀ w us, RS.ok H specs us → St w C.O H L → C.R (.returned (retV us)) w) : G C H A (Ds.map DF ++ L) stk := by
  intro b w ha hs
  unfold Goes
  rw [hm]
  intro fr cs hb hk hro
  have hstep : ∃ X : Frame, step C.P (lone (fr.atR (wd b (Ds.map markD)) stk) cs w) = .next (lone X cs w) ∧ X.mode = .returning ∧ X.defers = Ds.map markD ∧ X.fn = C.f ∧ X.kind = .normal ∧ X.tmps = b.tmps := by
    have hd : (wd b (Ds.map markD)).defers = Ds.map markD := by show b.defers ++ _ = _; rw [ha.defers]; rfl
    rcases hstk with rfl | ⟨k, rfl⟩
    · exact ⟨_, stepR_end hro, rfl, hd, hb, hk, rfl⟩
    · exact ⟨_, stepR_ret hro, rfl, hd, hb, hk, rfl⟩
  obtain ⟨X, hX, h1, h2, h3, h4, h5⟩ := hstep
  obtain ⟨w', hsteps, hs'⟩ := unmarks (P := C.P) (cs := cs) h1 h2 hs
  obtain ⟨us, hu, hrun⟩ := RS.results hr hsrc ha hs'
  refine ⟨.returned (retV us), w', { X with defers := [] }, h w' us hu hs', .head hX hsteps, h3, h1, rfl, h4, C.fn, ?_, ?_⟩
  · show C.P.funcs[X.fn]? = _
    rw [h3, hf]
  · show (results C.fn X.tmps).run C.P w' = _
    rw [h5, hrun]
theorem G.retM {specs : List RS} {rs : List ResultVar} (Ds : List Nat) (hm : C.m = ⟨none, Ds.map markD⟩) (hL : Ls = Ds.map DF ++ L) (hf : C.P.funcs[C.f]? = some C.fn) (hr : C.fn.results.toList = rs) (hsrc : RS.src C H A L specs rs)
    (h : ∀ w us, RS.ok H specs us → St w C.O H L → C.R (.returned (retV us)) w) : G C H A Ls (.code .ret :: k) := by
  subst hL; exact G.leaveM hm (.inr ⟨k, rfl⟩) hf hr hsrc h
theorem G.endM {specs : List RS} {rs : List ResultVar} (Ds : List Nat) (hm : C.m = ⟨none, Ds.map markD⟩) (hL : Ls = Ds.map DF ++ L) (hf : C.P.funcs[C.f]? = some C.fn) (hr : C.fn.results.toList = rs) (hsrc : RS.src C H A L specs rs)
    (h : ∀ w us, RS.ok H specs us → St w C.O H L → C.R (.returned (retV us)) w) : G C H A Ls [] := by
  subst hL; exact G.leaveM hm (.inl rfl) hf hr hsrc h
end
/-! ### Maps, plainly -/
def mget {β : Type} (xs : List (Int × β)) (k : Int) : Option β := (xs.find? (fun p => p.1 == k)).map (·.2)
def mset {β : Type} (xs : List (Int × β)) (k : Int) (v : β) : List (Int × β) := if xs.any (fun p => p.1 == k) then xs.map (fun p => if p.1 == k then (k, v) else p) else xs ++ [(k, v)]
def mdel {β : Type} (xs : List (Int × β)) (k : Int) : List (Int × β) := xs.filter (fun p => !(p.1 == k))
def mkeys {β : Type} (xs : List (Int × β)) : List Int := xs.map (·.1)
theorem m_split {β : Type} (xs : List (Int × β)) (k : Int) : (∀ p ∈ xs, p.1 ≠ k) ∨ ∃ p v q, xs = p ++ (k, v) :: q ∧ ∀ x ∈ p, x.1 ≠ k := by
  induction xs with
  | nil => exact .inl (fun p hp => by cases hp)
  | cons x xs ih =>
    by_cases hx : x.1 = k
    · exact .inr ⟨[], x.2, xs, by rw [← hx]; rfl, fun _ h => by cases h⟩
    · rcases ih with h | ⟨p, v, q, rfl, h⟩
      · exact .inl fun p hp => by rcases List.mem_cons.1 hp with rfl | hp; exact hx; exact h p hp
      · exact .inr ⟨x :: p, v, q, rfl, fun y hy => by rcases List.mem_cons.1 hy with rfl | hy; exact hx; exact h y hy⟩
theorem find_none {β : Type} {xs : List (Int × β)} {k : Int} (h : ∀ p ∈ xs, p.1 ≠ k) : xs.find? (fun p => p.1 == k) = none := by
  rw [List.find?_eq_none]; intro p hp; simpa using h p hp
theorem mget_none {β : Type} {xs : List (Int × β)} {k : Int} (h : ∀ p ∈ xs, p.1 ≠ k) : mget xs k = none := by unfold mget; rw [find_none h]; rfl
theorem mget_mid {β : Type} {p q : List (Int × β)} {k : Int} {v : β} (h : ∀ x ∈ p, x.1 ≠ k) : mget (p ++ (k, v) :: q) k = some v := by
  unfold mget; rw [List.find?_append, find_none h]; simp
theorem mset_none {β : Type} {xs : List (Int × β)} {k : Int} {v : β} (h : ∀ p ∈ xs, p.1 ≠ k) : mset xs k v = xs ++ [(k, v)] := by
  unfold mset
  rw [if_neg]
  simp only [List.any_eq_true, beq_iff_eq, not_exists, not_and]
  exact fun x hx => h x hx
theorem map_keep {β : Type} {xs : List (Int × β)} {k : Int} {v : β} (h : ∀ p ∈ xs, p.1 ≠ k) : xs.map (fun p => if p.1 == k then (k, v) else p) = xs := by
  conv => rhs; rw [← List.map_id xs]
  apply List.map_congr_left
  intro p hp
  rw [if_neg (by simpa using h p hp)]; rfl
theorem mset_mid {β : Type} {p q : List (Int × β)} {k : Int} {u v : β} (h : ∀ x ∈ p, x.1 ≠ k) (h2 : ∀ x ∈ q, x.1 ≠ k) : mset (p ++ (k, u) :: q) k v = p ++ (k, v) :: q := by
  unfold mset
  rw [if_pos (by simp), List.map_append, List.map_cons, map_keep h, map_keep h2]
  simp
theorem mdel_none {β : Type} {xs : List (Int × β)} {k : Int} (h : ∀ p ∈ xs, p.1 ≠ k) : mdel xs k = xs := by
  unfold mdel; rw [List.filter_eq_self]; intro p hp; simpa using h p hp
theorem mdel_mid {β : Type} {p q : List (Int × β)} {k : Int} {u : β} (h : ∀ x ∈ p, x.1 ≠ k) (h2 : ∀ x ∈ q, x.1 ≠ k) : mdel (p ++ (k, u) :: q) k = p ++ q := by
  have e1 := mdel_none h
  have e2 := mdel_none h2
  unfold mdel at *
  rw [List.filter_append, List.filter_cons, e1, e2]; simp
theorem nodup_mid {β : Type} {p q : List (Int × β)} {k : Int} {u : β} (h : (mkeys (p ++ (k, u) :: q)).Nodup) : (∀ x ∈ p, x.1 ≠ k) ∧ ∀ x ∈ q, x.1 ≠ k := by
  unfold mkeys at h
  rw [List.map_append, List.map_cons, List.nodup_append] at h
  obtain ⟨_, h2, h3⟩ := h
  rw [List.nodup_cons] at h2
  refine ⟨fun x hx e => h3 x.1 (List.mem_map_of_mem hx) k (by simp) e, fun x hx e => h2.1 ?_⟩
  show k ∈ _
  rw [← e]; exact List.mem_map_of_mem hx
theorem modify_mid {α : Type} (f : α → α) : ∀ (p : List α) (a : α) (q : List α), (p ++ a :: q).modify p.length f = p ++ f a :: q
  | [], a, q => by simp [List.modify]
  | x :: p, a, q => by
    have := modify_mid f p a q
    simp only [List.cons_append, List.length_cons, List.modify_succ_cons, this]
/-! ### Maps in memory -/
def MEnt {β : Type} (ki : IntKind) (ek : Kd β) (H : PH) : List (Int × β) → List MapEntry → Prop
  | [], [] => True
  | p :: xs, e :: es => (e.key = .int ki p.1 ∧ ∃ cs, ek.R H p.2 cs ∧ e.val = ek.val cs) ∧ MEnt ki ek H xs es
  | _, _ => False
section
variable {β : Type} {ki : IntKind} {ek : Kd β} {H H' : PH}
theorem MEnt.mono (e : H.le H') : ∀ {xs : List (Int × β)} {es : List MapEntry}, MEnt ki ek H xs es → MEnt ki ek H' xs es
  | [], [], _ => trivial
  | _ :: _, _ :: _, ⟨⟨h1, cs, h2, h3⟩, h⟩ => ⟨⟨h1, cs, ek.mono e h2, h3⟩, MEnt.mono e h⟩
  | [], _ :: _, h => h.elim
  | _ :: _, [], h => h.elim
theorem MEnt.len : ∀ {xs : List (Int × β)} {es : List MapEntry}, MEnt ki ek H xs es → xs.length = es.length
  | [], [], _ => rfl
  | _ :: _, _ :: _, h => by simp [MEnt.len h.2]
  | [], _ :: _, h => h.elim
  | _ :: _, [], h => h.elim
theorem MEnt.app : ∀ {p q : List (Int × β)} {es : List MapEntry}, MEnt ki ek H (p ++ q) es → ∃ e1 e2, es = e1 ++ e2 ∧ MEnt ki ek H p e1 ∧ MEnt ki ek H q e2
  | [], q, es, h => ⟨[], es, rfl, trivial, h⟩
  | x :: p, q, e :: es, h => by
    obtain ⟨e1, e2, rfl, h1, h2⟩ := MEnt.app h.2
    exact ⟨e :: e1, e2, rfl, ⟨h.1, h1⟩, h2⟩
  | _ :: _, _, [], h => h.elim
theorem MEnt.join : ∀ {p q : List (Int × β)} {e1 e2 : List MapEntry}, MEnt ki ek H p e1 → MEnt ki ek H q e2 → MEnt ki ek H (p ++ q) (e1 ++ e2)
  | [], _, [], _, _, h => h
  | _ :: _, _, _ :: _, _, h, h2 => ⟨h.1, MEnt.join h.2 h2⟩
  | [], _, _ :: _, _, h, _ => h.elim
  | _ :: _, _, [], _, h, _ => h.elim
theorem findNow_none {kk : IntKind} {k : Int} : ∀ {xs : List (Int × β)} {es : List MapEntry} {i : Nat}, MEnt ki ek H xs es → (∀ p ∈ xs, p.1 ≠ k) → Instr.findNow (.int kk) (.int ki k) es i = some none
  | [], [], i, _, _ => rfl
  | p :: xs, e :: es, i, ⟨⟨h1, _⟩, h⟩, hk => by
    have hp : ¬ (k = p.1) := fun he => hk p (by simp) he.symm
    have hb : (k == p.1) = false := by simpa using hp
    simp only [Instr.findNow, h1, Instr.sameNow, if_true, hb]
    exact findNow_none h (fun q hq => hk q (by simp [hq]))
  | [], _ :: _, _, h, _ => h.elim
  | _ :: _, [], _, h, _ => h.elim
theorem findNow_mid {kk : IntKind} {k : Int} {v : β} {q : List (Int × β)} {e : MapEntry} {e2 : List MapEntry} : ∀ {p : List (Int × β)} {e1 : List MapEntry} {i : Nat}, MEnt ki ek H p e1 → (∀ x ∈ p, x.1 ≠ k) → MEnt ki ek H ((k, v) :: q) (e :: e2) →
    Instr.findNow (.int kk) (.int ki k) (e1 ++ e :: e2) i = some (some (i + e1.length, e.val))
  | [], [], i, _, _, h => by
    simp only [List.nil_append, Instr.findNow, h.1.1, Instr.sameNow, if_true, beq_self_eq_true, List.length_nil, Nat.add_zero]
  | p :: xs, a :: es, i, ⟨⟨h1, _⟩, h⟩, hk, h' => by
    have hp : ¬ (k = p.1) := fun he => hk p (by simp) he.symm
    have hb : (k == p.1) = false := by simpa using hp
    simp only [List.cons_append, Instr.findNow, h1, Instr.sameNow, if_true, hb]
    rw [findNow_mid h (fun q hq => hk q (by simp [hq])) h']
    simp only [List.length_cons]
    congr 3; omega
  | [], _ :: _, _, h, _, _ => h.elim
  | _ :: _, [], _, h, _, _ => h.elim
end
structure MOk {β : Type} (ki : IntKind) (ek : Kd β) (H : PH) (xs : List (Int × β)) (es : List MapEntry) (clock : Nat) : Prop where
  ent : MEnt ki ek H xs es
  nd : (mkeys xs).Nodup
  bd : (es.map (·.born)).Nodup
  bl : ∀ e ∈ es, e.born < clock
def MP {β : Type} (ki : IntKind) (ek : Kd β) (m : Nat) (xs : List (Int × β)) : Res where
  holds H h := ∃ es clock, MOk ki ek H xs es clock ∧ h = PH.one m (.map es.toArray clock)
  mono := fun e ⟨es, c, h, u⟩ => ⟨es, c, ⟨h.ent.mono e, h.nd, h.bd, h.bl⟩, u⟩
theorem Free.mp {β : Type} {ki : IntKind} {ek : Kd β} {m : Nat} {xs : List (Int × β)} (hd : Flat ek) : ∀ H H' h, (MP ki ek m xs).holds H h → (MP ki ek m xs).holds H' h := by
  rintro H H' h ⟨es, c, ho, u⟩
  refine ⟨es, c, ⟨?_, ho.nd, ho.bd, ho.bl⟩, u⟩
  have := ho.ent
  clear ho u
  induction xs generalizing es with
  | nil => cases es with | nil => trivial | cons => exact this.elim
  | cons p xs ih => cases es with
    | nil => exact this.elim
    | cons e es => obtain ⟨⟨h1, cs, h2, h3⟩, hr⟩ := this; exact ⟨⟨h1, cs, hd _ _ _ _ h2, h3⟩, ih es hr⟩
/-- a map type whose keys are numbers -/
structure MTy {β : Type} (P : Program) (t kt et : TypeId) (ki : IntKind) (ek : Kd β) (z0 : β) : Prop where
  und : P.underlying t = some (.map kt et)
  key : P.underlying kt = some (.int ki)
  zero : ∃ z cz, (P.info? et).bind (·.zero) = some z ∧ (∀ H, ek.R H z0 cz) ∧ z = ek.val cz
theorem MTy.run_zero {β : Type} {P : Program} {t kt et : TypeId} {ki : IntKind} {ek : Kd β} {z0 : β} (h : MTy P t kt et ki ek z0) (H : PH) : ∃ cz, ek.R H z0 cz ∧ ∀ w, (zeroValue et).run P w = .ok (ek.val cz) w := by
  obtain ⟨z, cz, h1, h2, rfl⟩ := h.zero
  refine ⟨cz, h2 H, fun w => ?_⟩
  cases hq : P.info? et with
  | none => rw [hq] at h1; cases h1
  | some ii => rw [hq] at h1; have h1' : ii.zero = some (ek.val cz) := h1; simp [zeroValue, typeInfo, hq, h1']
theorem run_checkKey {P : Program} {kt : TypeId} {ki : IntKind} (h : P.underlying kt = some (.int ki)) (b : Bool) (v : Value) (w : World) : (Instr.checkKey b 10000 kt v).run P w = .ok () w := by
  show (Instr.checkKey b (9999 + 1) kt v).run P w = _
  rw [Instr.checkKey]
  simp only [Sem.run_bind, run_underlying h, Result.andThen_ok]
  cases v <;> rfl
theorem run_getMap {P : Program} {w : World} {m : Nat} {es : Array MapEntry} {c : Nat} (h : ph w m = some (.map es c)) : (getObj m).run P w = .ok (.map es c) w := by
  have h' : w.heap[m]? = some (.map es c) := h
  simp [getObj, Sem.run, h']
theorem run_setMap {P : Program} {w : World} {m : Nat} {es : Array MapEntry} {c : Nat} {o' : Obj} (h : ph w m = some (.map es c)) : (setObj m o').run P w = .ok () (turned w m o') := by
  have h' : w.heap[m]? = some (.map es c) := h
  simp [setObj, Sem.run, h', turned]
section
variable {C : Cx} {H : PH} {A : List (Nat × Value)} {Ls L M : List Res} {k : List Item}
variable {ops : Array Oper} {i : Nat} {rest : List Nat} {dst : Option Nat} {d : Nat} {ty : TypeId} {ps : String} {af : Array Edge} {gd : Option (Nat × Bool)}
variable {β : Type} {ki : IntKind} {ek : Kd β} {z0 : β} {t kt et : TypeId} {m : Nat} {xs : List (Int × β)} {key : Int}
theorem St.mp {w O : World} {j : Nat} (s : St w O H Ls) (e : nthR Ls j = some (MP ki ek m xs)) : ∃ es c, MOk ki ek H xs es c ∧ ph w m = some (.map es.toArray c) := by
  obtain ⟨h, ⟨es, c, ho, rfl⟩, hle⟩ := s.nth e
  exact ⟨es, c, ho, PH.le_one hle⟩
theorem G.makeMap {r : Option Operand} {vr : Option Value} (ho : ops[i]? = some { dst := some d, op := .makeMap t r, type := ty, pos := ps, after := af, guard := gd }) (hw : wantedA A ops gd = some true) (hn : Nat.blt d C.n = true) (hr : opt A r = some vr)
    (hv : (match vr with | none => true | some (.int _ _) => true | _ => false) = true) (ht : MTy C.P t kt et ki ek z0)
    (g : ∀ m, G C H ((d, .map (some m)) :: A) (MP ki ek m ([] : List (Int × β)) :: Ls) (.inRegion ops rest :: k)) : G C H A Ls (.inRegion ops (i :: rest) :: k) :=
  G.valW ho hw rfl hn fun a w ha hs => by
    refine ⟨.map (some w.heap.size), w.alloc (.map #[] 0), H, _, ?_, hs.alloc (r := MP ki ek w.heap.size ([] : List (Int × β))) _ ⟨[], 0, ⟨trivial, by simp [mkeys], by simp, fun e he => by cases he⟩, rfl⟩, g _⟩
    have e : r.map a.eval = vr := ha.opt hr
    simp only [execOp, e, Instr.makeMap, Sem.run_bind]
    cases vr with
    | none => simp [newObj, Sem.run]
    | some v => cases v <;> first | (cases hv; done) | (simp [run_underlying ht.und, asInt, asIntOf, newObj, Sem.run])
theorem run_lookup {P : Program} {w : World} {es : List MapEntry} {c : Nat} (ht : MTy P t kt et ki ek z0) (hm : MOk ki ek H xs es c) (hb : ph w m = some (.map es.toArray c)) (b : Bool) :
    ∃ cs, ek.R H ((mget xs key).getD z0) cs ∧ (Instr.lookup t (.map (some m)) (.int ki key) b).run P w = .ok (if b then .tuple #[ek.val cs, .bool (mget xs key).isSome] else ek.val cs) w := by
  rcases m_split xs key with h | ⟨p, v, q, rfl, h⟩
  · obtain ⟨cz, hz, hzv⟩ := ht.run_zero H
    refine ⟨cz, by rw [mget_none h]; exact hz, ?_⟩
    simp only [Instr.lookup, Sem.run_bind, run_underlying ht.und, Result.andThen_ok, run_getMap hb, Sem.run_pure, run_checkKey ht.key, Instr.findKey, run_underlying ht.key, List.toList_toArray, findNow_none hm.ent h, hzv, mget_none h]
    cases b <;> rfl
  · obtain ⟨e1, e2, rfl, h1, h2⟩ := hm.ent.app
    cases e2 with
    | nil => exact h2.elim
    | cons e e2 =>
      obtain ⟨cs, hR, hv⟩ := h2.1.2
      refine ⟨cs, by rw [mget_mid h]; exact hR, ?_⟩
      simp only [Instr.lookup, Sem.run_bind, run_underlying ht.und, Result.andThen_ok, run_getMap hb, Sem.run_pure, run_checkKey ht.key, Instr.findKey, run_underlying ht.key, List.toList_toArray, findNow_mid h1 h h2, hv, mget_mid h]
      cases b <;> rfl
theorem G.lookup2 {x y : Operand} {j : Nat} (ho : ops[i]? = some { dst := some d, op := .lookup t x y true, type := ty, pos := ps, after := af, guard := gd }) (hw : wantedA A ops gd = some true) (hn : Nat.blt d C.n = true)
    (hx : ev A x = some (.map (some m))) (hy : ev A y = some (.int ki key)) (hr : nthR Ls j = some (MP ki ek m xs)) (ht : MTy C.P t kt et ki ek z0)
    (g : ∀ cs, ek.R H ((mget xs key).getD z0) cs → G C H ((d, .tuple #[ek.val cs, .bool (mget xs key).isSome]) :: A) Ls (.inRegion ops rest :: k)) : G C H A Ls (.inRegion ops (i :: rest) :: k) :=
  G.valW ho hw rfl hn fun a w ha hs => by
    obtain ⟨es, c, hm, hb⟩ := hs.mp hr
    obtain ⟨cs, hR, hrun⟩ := run_lookup (key := key) ht hm hb true
    exact ⟨_, w, H, Ls, by simp [execOp, ha.eval hx, ha.eval hy, hrun], hs, g cs hR⟩
theorem G.lookup1 {x y : Operand} {j : Nat} (ho : ops[i]? = some { dst := some d, op := .lookup t x y false, type := ty, pos := ps, after := af, guard := gd }) (hw : wantedA A ops gd = some true) (hn : Nat.blt d C.n = true)
    (hx : ev A x = some (.map (some m))) (hy : ev A y = some (.int ki key)) (hr : nthR Ls j = some (MP ki ek m xs)) (ht : MTy C.P t kt et ki ek z0)
    (g : ∀ cs, ek.R H ((mget xs key).getD z0) cs → G C H ((d, ek.val cs) :: A) Ls (.inRegion ops rest :: k)) : G C H A Ls (.inRegion ops (i :: rest) :: k) :=
  G.valW ho hw rfl hn fun a w ha hs => by
    obtain ⟨es, c, hm, hb⟩ := hs.mp hr
    obtain ⟨cs, hR, hrun⟩ := run_lookup (key := key) ht hm hb false
    exact ⟨_, w, H, Ls, by simp [execOp, ha.eval hx, ha.eval hy, hrun], hs, g cs hR⟩
theorem G.lenM {x : Operand} {j : Nat} (ho : ops[i]? = some { dst := some d, op := .call { callee := .builtin .len, args := #[x], argTypes := #[t] }, type := ty, pos := ps, after := af, guard := gd }) (hw : wantedA A ops gd = some true) (hn : Nat.blt d C.n = true)
    (hx : ev A x = some (.map (some m))) (hr : nthR Ls j = some (MP ki ek m xs)) (ht : MTy C.P t kt et ki ek z0)
    (g : G C H ((d, .int .i64 (xs.length : Int)) :: A) Ls (.inRegion ops rest :: k)) : G C H A Ls (.inRegion ops (i :: rest) :: k) :=
  G.val ho hw rfl hn (fun a w ha hs => by
    obtain ⟨es, c, hm, hb⟩ := hs.mp hr
    simp [execOp, resolve, invoke, builtin, ha.eval hx, Builtin.len_, run_underlying ht.und, run_getMap hb, hm.ent.len, goInt]) g
/-- a store into a map -/
theorem run_mapUpdate {P : Program} {w O : World} {v : β} {cs : List Value} (ht : MTy P t kt et ki ek z0) (hs : St w O H (MP ki ek m xs :: L)) (hR : ek.R H v cs) :
    ∃ w', (Instr.mapUpdate t (.map (some m)) (.int ki key) (ek.val cs)).run P w = .ok () w' ∧ St w' O H (MP ki ek m (mset xs key v) :: L) := by
  obtain ⟨es, c, hm, hb⟩ := hs.mp (j := 0) rfl
  have fin : ∀ es' c', MOk ki ek H (mset xs key v) es' c' → (Instr.mapUpdate t (.map (some m)) (.int ki key) (ek.val cs)).run P w = .ok () (turned w m (.map es'.toArray c')) →
      ∃ w', (Instr.mapUpdate t (.map (some m)) (.int ki key) (ek.val cs)).run P w = .ok () w' ∧ St w' O H (MP ki ek m (mset xs key v) :: L) := fun es' c' hm' hrun =>
    ⟨_, hrun, hs.turn1 (o := .map #[] 0) (fun h ⟨es, c, _, e⟩ => by subst e; simp [PH.one]) ⟨es', c', hm', rfl⟩⟩
  rcases m_split xs key with h | ⟨p, u, q, rfl, h⟩
  · refine fin (es ++ [{ key := .int ki key, val := ek.val cs, born := c }]) (c + 1) ⟨?_, ?_, ?_, ?_⟩ ?_
    · rw [mset_none h]; exact hm.ent.join ⟨⟨rfl, cs, hR, rfl⟩, trivial⟩
    · rw [mset_none h]; unfold mkeys; rw [List.map_append, List.nodup_append]
      exact ⟨hm.nd, by simp, fun x hx y hy e => by
        simp at hy; subst hy; subst e
        obtain ⟨p, hp, e⟩ := List.mem_map.1 hx
        exact h p hp e⟩
    · rw [List.map_append, List.nodup_append]
      exact ⟨hm.bd, by simp, fun x hx y hy e => by
        simp at hy; subst hy; subst e
        obtain ⟨e, he, e'⟩ := List.mem_map.1 hx
        have := hm.bl e he
        omega⟩
    · intro e he
      rcases List.mem_append.1 he with he | he
      · have := hm.bl e he; omega
      · simp at he; subst he; exact Nat.lt_succ_self c
    · simp only [Instr.mapUpdate, Sem.run_bind, run_underlying ht.und, Result.andThen_ok, run_getMap hb, run_checkKey ht.key, Instr.findKey, run_underlying ht.key, List.toList_toArray, findNow_none hm.ent h, Sem.run_pure, run_setMap hb]
      simp
  · obtain ⟨e1, e2, rfl, h1, h2⟩ := hm.ent.app
    cases e2 with
    | nil => exact h2.elim
    | cons e e2 =>
      obtain ⟨hq1, hq2⟩ := nodup_mid hm.nd
      refine fin (e1 ++ { e with key := .int ki key, val := ek.val cs } :: e2) c ⟨?_, ?_, ?_, ?_⟩ ?_
      · rw [mset_mid hq1 hq2]; exact h1.join ⟨⟨rfl, cs, hR, rfl⟩, h2.2⟩
      · rw [mset_mid hq1 hq2]; have := hm.nd; unfold mkeys at this ⊢; simpa using this
      · have := hm.bd; simpa using this
      · intro x hx
        rcases List.mem_append.1 hx with hx | hx
        · exact hm.bl x (by simp [hx])
        · rcases List.mem_cons.1 hx with rfl | hx
          · exact hm.bl e (by simp)
          · exact hm.bl x (by simp [hx])
      · have hkey : e.key = .int ki key := h2.1.1
        have hmod : (e1 ++ e :: e2).toArray.modify e1.length (fun e => { e with key := .int ki key, val := ek.val cs }) = (e1 ++ { e with key := .int ki key, val := ek.val cs } :: e2).toArray := by
          apply Array.ext'
          rw [Array.toList_modify]
          exact modify_mid _ e1 e e2
        have hstay : (Instr.keyThatStays (.int ki key) (.int ki key)).run P w = .ok (.int ki key) w := by
          unfold Instr.keyThatStays
          rw [show Instr.sameBits 10000 (.int ki key) (.int ki key) = true from by unfold Instr.sameBits; simp]
          rfl
        have hkk : ((((e1 ++ e :: e2).toArray[e1.length]?).map (·.key)).getD (.int ki key) : Value) = .int ki key := by simp [hkey]
        simp only [Instr.mapUpdate, Sem.run_bind, run_underlying ht.und, Result.andThen_ok, run_getMap hb, run_checkKey ht.key, Instr.findKey, run_underlying ht.key, List.toList_toArray, findNow_mid h1 h h2, Sem.run_pure, Nat.zero_add, hkk, hstay, hmod, run_setMap hb]
theorem G.mapUpdate {x y z : Operand} {v : β} {u : Value} (ho : ops[i]? = some { dst := none, op := .mapUpdate t x y z, type := ty, pos := ps, after := af, guard := gd }) (hw : wantedA A ops gd = some true)
    (hx : ev A x = some (.map (some m))) (hy : ev A y = some (.int ki key)) (hz : ev A z = some u) (hR : ∃ cs, ek.R H v cs ∧ u = ek.val cs) (ht : MTy C.P t kt et ki ek z0)
    (g : G C H A (MP ki ek m (mset xs key v) :: L) (.inRegion ops rest :: k)) : G C H A (MP ki ek m xs :: L) (.inRegion ops (i :: rest) :: k) :=
  G.unitW ho hw rfl fun a w ha hs => by
    obtain ⟨cs, hR, rfl⟩ := hR
    obtain ⟨w', hrun, hs'⟩ := run_mapUpdate (key := key) ht hs hR
    exact ⟨w', H, _, by simp [execOp, ha.eval hx, ha.eval hy, ha.eval hz, hrun], hs', g⟩
theorem run_delete {P : Program} {w O : World} (ht : MTy P t kt et ki ek z0) (hs : St w O H (MP ki ek m xs :: L)) :
    ∃ w', (Builtin.delete_ #[t, kt] ty #[.map (some m), .int ki key]).run P w = .ok (.tuple #[]) w' ∧ St w' O H (MP ki ek m (mdel xs key) :: L) := by
  obtain ⟨es, c, hm, hb⟩ := hs.mp (j := 0) rfl
  have fin : ∀ es', MOk ki ek H (mdel xs key) es' c → (Builtin.delete_ #[t, kt] ty #[.map (some m), .int ki key]).run P w = .ok (.tuple #[]) (turned w m (.map es'.toArray c)) →
      ∃ w', (Builtin.delete_ #[t, kt] ty #[.map (some m), .int ki key]).run P w = .ok (.tuple #[]) w' ∧ St w' O H (MP ki ek m (mdel xs key) :: L) := fun es' hm' hrun =>
    ⟨_, hrun, hs.turn1 (o := .map #[] 0) (fun h ⟨es, c, _, e⟩ => by subst e; simp [PH.one]) ⟨es', c, hm', rfl⟩⟩
  rcases m_split xs key with h | ⟨p, u, q, rfl, h⟩
  · refine fin es (by rw [mdel_none h]; exact hm) ?_
    simp [Builtin.delete_, run_underlying ht.und, run_getMap hb, run_checkKey ht.key, Instr.findKey, run_underlying ht.key, findNow_none hm.ent h, run_setMap hb]
  · obtain ⟨e1, e2, rfl, h1, h2⟩ := hm.ent.app
    cases e2 with
    | nil => exact h2.elim
    | cons e e2 =>
      obtain ⟨hq1, hq2⟩ := nodup_mid hm.nd
      refine fin (e1 ++ e2) ⟨?_, ?_, ?_, ?_⟩ ?_
      · rw [mdel_mid hq1 hq2]; exact h1.join h2.2
      · rw [mdel_mid hq1 hq2]
        have := hm.nd
        unfold mkeys at this ⊢
        rw [List.map_append] at this ⊢
        rw [List.nodup_append] at this ⊢
        rw [List.map_cons, List.nodup_cons] at this
        exact ⟨this.1, this.2.1.2, fun a ha b hb => this.2.2 a ha b (by simp [hb])⟩
      · have := hm.bd
        rw [List.map_append] at this ⊢
        rw [List.nodup_append] at this ⊢
        rw [List.map_cons, List.nodup_cons] at this
        exact ⟨this.1, this.2.1.2, fun a ha b hb => this.2.2 a ha b (by simp [hb])⟩
      · exact fun x hx => hm.bl x (by rcases List.mem_append.1 hx with hx | hx <;> simp [hx])
      · have her : (e1 ++ e :: e2).toArray.eraseIdxIfInBounds e1.length = (e1 ++ e2).toArray := by
          rw [Array.eraseIdxIfInBounds_eq]
          simp [List.eraseIdx_append_of_length_le]
        simp only [Builtin.delete_, List.getElem?_toArray, List.getElem?_cons_zero, List.getElem?_cons_succ, Sem.run_bind, run_underlying ht.und, Result.andThen_ok, run_getMap hb, run_checkKey ht.key, Instr.findKey, run_underlying ht.key, List.toList_toArray, findNow_mid h1 h h2, Sem.run_pure, Nat.zero_add, her, run_setMap hb]
theorem G.delete {x y : Operand} (ho : ops[i]? = some { dst := dst, op := .call { callee := .builtin .delete, args := #[x, y], argTypes := #[t, kt] }, type := ty, pos := ps, after := af, guard := gd }) (hw : wantedA A ops gd = some true) (hn : dOk C.n dst = true)
    (hx : ev A x = some (.map (some m))) (hy : ev A y = some (.int ki key)) (ht : MTy C.P t kt et ki ek z0)
    (g : G C H (putA dst (.tuple #[]) A) (MP ki ek m (mdel xs key) :: L) (.inRegion ops rest :: k)) : G C H A (MP ki ek m xs :: L) (.inRegion ops (i :: rest) :: k) := by
  intro a w ha hs
  obtain ⟨w', hrun, hs'⟩ := run_delete (ty := ty) (key := key) ht hs
  refine Goes.opV ho (wanted_of ha hw) (v := .tuple #[]) (w' := w') ?_ (g _ w' (ha.putD hn _) hs')
  simp [execOp, resolve, invoke, builtin, ha.eval hx, ha.eval hy, hrun]
end
end Go.Proofs.Ytpffemcpfddjbaa.K
