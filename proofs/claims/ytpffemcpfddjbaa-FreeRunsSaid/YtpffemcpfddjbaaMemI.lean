/- The judgement 'G': loops over maps, in whatever order (own text). -/
import Derived.Test.YtpffemcpfddjbaaMemH
import Derived.Maps.RangeRun
namespace Go.Proofs.Ytpffemcpfddjbaa.K
open Go
def RB (g : Nat) (o : Obj) : Res where
  holds _ h := h = PH.one g o
  mono := fun _ h => h
def lefts (es : List MapEntry) (seen : Array Nat) : List MapEntry := es.filter fun e => !seen.contains e.born
def ME {β : Type} (ki : IntKind) (ek : Kd β) (m : Nat) (xs todo : List (Int × β)) (cur : Option (Int × β)) (es : List MapEntry) (clock : Nat) (seen : Array Nat) : Res where
  holds H h := MOk ki ek H xs es clock ∧ MEnt ki ek H todo (lefts es seen) ∧ (∀ p, cur = some p → ∃ (s0 : Array Nat) (e : MapEntry), seen = s0.push e.born ∧ e ∈ es ∧ e.key = .int ki p.1 ∧ ∃ cs, ek.R H p.2 cs ∧ e.val = ek.val cs) ∧ h = PH.one m (.map es.toArray clock)
  mono := fun e ⟨a, b, c, u⟩ => ⟨⟨a.ent.mono e, a.nd, a.bd, a.bl⟩, b.mono e, fun p hp => by obtain ⟨s0, x, h1, h2, h3, cs, h4, h5⟩ := c p hp; exact ⟨s0, x, h1, h2, h3, cs, ek.mono e h4, h5⟩, u⟩
/-- a map and an iterator over it: what is still to come, what came last -/
def MI {β : Type} (ki : IntKind) (ek : Kd β) (m g : Nat) (xs todo : List (Int × β)) (cur : Option (Int × β)) : Res :=
  Res.ex fun (p : List MapEntry × Nat × Array Nat) => Res.star (ME ki ek m xs todo cur p.1 p.2.1 p.2.2) (RB g (.mapIter (some m) p.2.1 p.2.2 p.2.1))
section
variable {w O : World} {H : PH} {L : List Res} {β : Type} {ki : IntKind} {ek : Kd β} {m g : Nat} {xs todo : List (Int × β)} {cur : Option (Int × β)}
theorem St.mi (s : St w O H (MI ki ek m g xs todo cur :: L)) : ∃ es clock seen, St w O H (ME ki ek m xs todo cur es clock seen :: RB g (.mapIter (some m) clock seen clock) :: L) := by
  obtain ⟨h, a, d, b, c⟩ := s.heap
  obtain ⟨p, a⟩ := Sats.ex.1 a
  exact ⟨p.1, p.2.1, p.2.2, ⟨⟨h, Sats.star.1 a, d, b, c⟩, s.os, s.tape, s.output⟩⟩
theorem St.miI {es : List MapEntry} {clock : Nat} {seen : Array Nat} (s : St w O H (ME ki ek m xs todo cur es clock seen :: RB g (.mapIter (some m) clock seen clock) :: L)) : St w O H (MI ki ek m g xs todo cur :: L) :=
  St.exI (F := fun (p : List MapEntry × Nat × Array Nat) => Res.star (ME ki ek m xs todo cur p.1 p.2.1 p.2.2) (RB g (.mapIter (some m) p.2.1 p.2.2 p.2.1))) (es, clock, seen) (St.starI s)
theorem St.mpMe (s : St w O H (MP ki ek m xs :: L)) : ∃ es clock, MOk ki ek H xs es clock ∧ St w O H (RB m (.map es.toArray clock) :: L) := by
  obtain ⟨h, ⟨h1, h2, d, u, ⟨es, c, ho, e⟩, sL⟩, dd, b, cc⟩ := s.heap
  exact ⟨es, c, ho, ⟨⟨h, ⟨h1, h2, d, u, e, sL⟩, dd, b, cc⟩, s.os, s.tape, s.output⟩⟩
theorem St.head {r r' : Res} (s : St w O H (r :: L)) (e : ∀ h, r.holds H h → r'.holds H h) : St w O H (r' :: L) := by
  obtain ⟨h, ⟨h1, h2, d, u, a, sL⟩, dd, b, cc⟩ := s.heap
  exact ⟨⟨h, ⟨h1, h2, d, u, e h1 a, sL⟩, dd, b, cc⟩, s.os, s.tape, s.output⟩
theorem St.meFacts {es : List MapEntry} {clock : Nat} {seen : Array Nat} (s : St w O H (ME ki ek m xs todo cur es clock seen :: L)) :
    MOk ki ek H xs es clock ∧ MEnt ki ek H todo (lefts es seen) ∧ (∀ p, cur = some p → ∃ (s0 : Array Nat) (e : MapEntry), seen = s0.push e.born ∧ e ∈ es ∧ e.key = .int ki p.1 ∧ ∃ cs, ek.R H p.2 cs ∧ e.val = ek.val cs) ∧ ph w m = some (.map es.toArray clock) := by
  obtain ⟨h, ⟨a, b, c, rfl⟩, hle⟩ := s.nth (j := 0) rfl
  exact ⟨a, b, c, PH.le_one hle⟩
theorem St.rb {o : Obj} {j : Nat} (s : St w O H L) (e : nthR L j = some (RB g o)) : ph w g = some o := by
  obtain ⟨h, rfl, hle⟩ := s.nth e
  exact PH.le_one hle
/-- the second of two turned -/
theorem St.turn2 {r : Res} {o o' : Obj} (s : St w O H (r :: RB g o :: L)) : St (turned w g o') O H (r :: RB g o' :: L) :=
  (St.turn1 (o := o) (o' := o') (r' := RB g o') s.swap (fun h e => by have e' : h = PH.one g o := e; subst e'; simp [PH.one]) rfl).swap
theorem MEnt.mid {e : MapEntry} : ∀ {xs : List (Int × β)} {es : List MapEntry}, MEnt ki ek H xs es → e ∈ es → ∃ p x q e1 e2, xs = p ++ x :: q ∧ es = e1 ++ e :: e2 ∧ MEnt ki ek H p e1 ∧ MEnt ki ek H (x :: q) (e :: e2)
  | [], [], _, he => by cases he
  | x :: xs, a :: es, h, he => by
    by_cases ha : e = a
    · subst ha
      exact ⟨[], x, xs, [], es, rfl, rfl, trivial, h⟩
    · obtain ⟨p, y, q, e1, e2, rfl, rfl, h1, h2⟩ := MEnt.mid h.2 (by rcases List.mem_cons.1 he with h | h; exact absurd h ha; exact h)
      exact ⟨x :: p, y, q, a :: e1, e2, rfl, rfl, ⟨h.1, h1⟩, h2⟩
  | [], _ :: _, h, _ => h.elim
  | _ :: _, [], h, _ => h.elim
theorem lefts_push {es e1 e2 : List MapEntry} {seen : Array Nat} {e : MapEntry} (hnd : (es.map (·.born)).Nodup) (hl : lefts es seen = e1 ++ e :: e2) : lefts es (seen.push e.born) = e1 ++ e2 := by
  have h1 : lefts es (seen.push e.born) = (lefts es seen).filter (fun x => !(x.born == e.born)) := by
    unfold lefts
    rw [List.filter_filter]
    apply List.filter_congr
    intro x _
    simp only [Array.contains_push]
    cases hc : seen.contains x.born <;> simp [hc, eq_comm]
  rw [h1, hl]
  have hnd2 : ((e1 ++ e :: e2).map (·.born)).Nodup := by
    rw [← hl]
    exact List.Sublist.nodup (List.Sublist.map _ List.filter_sublist) hnd
  rw [List.map_append, List.map_cons, List.nodup_append] at hnd2
  obtain ⟨_, h2, h3⟩ := hnd2
  rw [List.nodup_cons] at h2
  rw [List.filter_append, List.filter_cons]
  have k1 : e1.filter (fun x => !(x.born == e.born)) = e1 := by
    rw [List.filter_eq_self]; intro x hx
    have := h3 x.born (List.mem_map_of_mem hx) e.born (by simp)
    simpa using this
  have k2 : e2.filter (fun x => !(x.born == e.born)) = e2 := by
    rw [List.filter_eq_self]; intro x hx
    have : x.born ≠ e.born := fun he => h2.1 (by rw [← he]; exact List.mem_map_of_mem hx)
    simpa using this
  rw [k1, k2]; simp
theorem MEnt.mem : ∀ {xs : List (Int × β)} {es : List MapEntry} {e : MapEntry}, MEnt ki ek H xs es → e ∈ es → ∃ p ∈ xs, e.key = .int ki p.1 ∧ ∃ cs, ek.R H p.2 cs ∧ e.val = ek.val cs
  | _, _, _, h, he => by
    obtain ⟨p, x, q, e1, e2, rfl, rfl, _, h2⟩ := h.mid he
    exact ⟨x, by simp, h2.1.1, h2.1.2⟩
end
section
variable {C : Cx} {H : PH} {A : List (Nat × Value)} {Ls L M : List Res} {k : List Item}
variable {ops : Array Oper} {i : Nat} {rest : List Nat} {dst : Option Nat} {d : Nat} {ty : TypeId} {ps : String} {af : Array Edge} {gd : Option (Nat × Bool)}
variable {β : Type} {ki : IntKind} {ek : Kd β} {z0 : β} {t kt et : TypeId} {m gi : Nat} {xs todo : List (Int × β)} {cur : Option (Int × β)} {key : Int}
theorem G.rangeM {x : Operand} (ho : ops[i]? = some { dst := some d, op := .range t x, type := ty, pos := ps, after := af, guard := gd }) (hw : wantedA A ops gd = some true) (hn : Nat.blt d C.n = true)
    (hx : ev A x = some (.map (some m))) (ht : MTy C.P t kt et ki ek z0)
    (g : ∀ gi, G C H ((d, .pointer (some ⟨gi, 0, none⟩)) :: A) (MI ki ek m gi xs xs none :: L) (.inRegion ops rest :: k)) : G C H A (MP ki ek m xs :: L) (.inRegion ops (i :: rest) :: k) :=
  G.valW ho hw rfl hn fun a w ha hs => by
    obtain ⟨es, c, hm, hs1⟩ := hs.mpMe
    have hb := hs1.rb (j := 0) rfl
    have hs2 : St (w.alloc (.mapIter (some m) c #[] c)) C.O H (RB w.heap.size (.mapIter (some m) c #[] c) :: RB m (.map es.toArray c) :: L) := hs1.alloc _ rfl
    refine ⟨.pointer (some ⟨w.heap.size, 0, none⟩), w.alloc (.mapIter (some m) c #[] c), H, _, ?_, St.miI (es := es) (clock := c) (seen := #[]) (St.head hs2.swap fun h e => ?_), g w.heap.size⟩
    · simp only [execOp, ha.eval hx, Instr.range, Sem.run_bind, run_underlying ht.und, Result.andThen_ok, run_getMap hb, Sem.run_pure]
      simp [newObj, Sem.run]
    · have hle : lefts es #[] = es := by unfold lefts; rw [List.filter_eq_self]; intro x _; simp
      exact ⟨hm, by rw [hle]; exact hm.ent, fun p hp => (by cases hp), e⟩
theorem next_of {P : Program} {w O : World} {es : List MapEntry} {c : Nat} {seen : Array Nat} (s : St w O H (ME ki ek m xs todo cur es c seen :: RB gi (.mapIter (some m) c seen c) :: L)) :
    (todo = [] ∧ (Instr.next (.pointer (some ⟨gi, 0, none⟩)) false ty).run P w = .ok (.tuple #[.bool false]) w) ∨
    ∃ e ∈ lefts es seen, ∃ w1 : World, (w1 = w ∨ w1 = w.drew) ∧ (Instr.next (.pointer (some ⟨gi, 0, none⟩)) false ty).run P w = .ok (.tuple #[.bool true, e.key, e.val]) (turned w1 gi (.mapIter (some m) c (seen.push e.born) c)) := by
  obtain ⟨hm, hl, _, hb⟩ := s.meFacts
  have hr := s.rb (j := 1) rfl
  have hle : (leftOf es.toArray seen).toList = lefts es seen := by unfold leftOf lefts; simp
  rcases run_next_at (P := P) w ty gi m c c seen es.toArray c hr hb (fun x hx => hm.bl x (by simpa using hx)) (Nat.le_refl _) with ⟨h0, hrun⟩ | ⟨e, he, w1, h1, hrun⟩
  · refine .inl ⟨?_, hrun⟩
    have h2 : lefts es seen = [] := by rw [← hle]; exact List.eq_nil_of_length_eq_zero (by simpa using h0)
    rw [h2] at hl
    cases todo with
    | nil => rfl
    | cons => exact hl.elim
  · exact .inr ⟨e, by rw [← hle]; exact he, w1, h1, hrun⟩
theorem G.nextNil {x : Operand} (ho : ops[i]? = some { dst := some d, op := .next x false, type := ty, pos := ps, after := af, guard := gd }) (hw : wantedA A ops gd = some true) (hn : Nat.blt d C.n = true)
    (hx : ev A x = some (.pointer (some ⟨gi, 0, none⟩)))
    (g : G C H ((d, .tuple #[.bool false]) :: A) (MP ki ek m xs :: L) (.inRegion ops rest :: k)) : G C H A (MI ki ek m gi xs [] cur :: L) (.inRegion ops (i :: rest) :: k) :=
  G.valW ho hw rfl hn fun a w ha hs => by
    obtain ⟨es, c, seen, s⟩ := hs.mi
    obtain ⟨hm, hl, _, hb⟩ := s.meFacts
    rcases next_of (P := C.P) (ty := ty) s with ⟨_, hrun⟩ | ⟨e, he, _⟩
    · refine ⟨_, w, H, MP ki ek m xs :: L, by simp [execOp, ha.eval hx, hrun], St.head s.swap.drop fun h ⟨h1, _, _, e⟩ => ⟨es, c, h1, e⟩, g⟩
    · generalize hq : lefts es seen = q at hl he
      cases q with
      | nil => cases he
      | cons => exact hl.elim
theorem G.nextOne {x : Operand} (ho : ops[i]? = some { dst := some d, op := .next x false, type := ty, pos := ps, after := af, guard := gd }) (hw : wantedA A ops gd = some true) (hn : Nat.blt d C.n = true)
    (hx : ev A x = some (.pointer (some ⟨gi, 0, none⟩))) (hne : todo ≠ [])
    (g : ∀ p rest' cs, (mkeys todo).Nodup → todo.Perm (p :: rest') → ek.R H p.2 cs → G C H ((d, .tuple #[.bool true, .int ki p.1, ek.val cs]) :: A) (MI ki ek m gi xs rest' (some p) :: L) (.inRegion ops rest :: k)) : G C H A (MI ki ek m gi xs todo cur :: L) (.inRegion ops (i :: rest) :: k) :=
  G.valW ho hw rfl hn fun a w ha hs => by
    obtain ⟨es, c, seen, s⟩ := hs.mi
    obtain ⟨hm, hl, _, hb⟩ := s.meFacts
    rcases next_of (P := C.P) (ty := ty) s with ⟨h0, _⟩ | ⟨e, he, w1, h1, hrun⟩
    · exact absurd h0 hne
    · obtain ⟨p, y, q, e1, e2, hxs, hls, k1, k2⟩ := hl.mid he
      obtain ⟨hk, cs, hR, hv⟩ := k2.1
      have hmem : e ∈ es := (List.mem_filter.1 he).1
      have hs1 : St w1 C.O H (ME ki ek m xs todo cur es c seen :: RB gi (.mapIter (some m) c seen c) :: L) := by
        rcases h1 with rfl | rfl
        · exact s
        · exact s.drew _
      have hnd : (mkeys todo).Nodup := by
        have key : ∀ {xs : List (Int × β)} {es : List MapEntry} (f : MapEntry → Bool) {ts : List (Int × β)}, MEnt ki ek H xs es → MEnt ki ek H ts (es.filter f) → (mkeys xs).Nodup → (mkeys ts).Nodup ∧ ∀ x ∈ mkeys ts, x ∈ mkeys xs := by
          intro xs
          induction xs with
          | nil =>
            intro es f ts h h2 _
            cases es with
            | nil => cases ts with | nil => exact ⟨by simp [mkeys], fun x hx => hx⟩ | cons => exact h2.elim
            | cons => exact h.elim
          | cons x xs ih =>
            intro es f ts h h2 hn
            cases es with
            | nil => exact h.elim
            | cons a es =>
              have hn' : (mkeys xs).Nodup ∧ x.1 ∉ mkeys xs := by
                unfold mkeys at hn ⊢
                rw [List.map_cons, List.nodup_cons] at hn
                exact ⟨hn.2, hn.1⟩
              rw [List.filter_cons] at h2
              split at h2
              · cases ts with
                | nil => exact h2.elim
                | cons y ts =>
                  obtain ⟨r1, r2⟩ := ih f h.2 h2.2 hn'.1
                  have e1 : x.1 = y.1 := by
                    have a1 := h.1.1
                    have a2 := h2.1.1
                    rw [a1] at a2
                    injection a2
                  refine ⟨?_, ?_⟩
                  · show (y.1 :: mkeys ts).Nodup
                    rw [List.nodup_cons]
                    exact ⟨fun hy => hn'.2 (by rw [e1]; exact r2 _ hy), r1⟩
                  · intro z hz
                    have hz' : z ∈ y.1 :: mkeys ts := hz
                    show z ∈ x.1 :: mkeys xs
                    rcases List.mem_cons.1 hz' with rfl | hz'
                    · rw [e1]; simp
                    · exact List.mem_cons_of_mem _ (r2 z hz')
              · obtain ⟨r1, r2⟩ := ih f h.2 h2 hn'.1
                exact ⟨r1, fun z hz => List.mem_cons_of_mem _ (r2 z hz)⟩
        exact (key _ hm.ent hl hm.nd).1
      refine ⟨.tuple #[.bool true, .int ki y.1, ek.val cs], turned w1 gi (.mapIter (some m) c (seen.push e.born) c), H, MI ki ek m gi xs (p ++ q) (some y) :: L, by rw [← hk, ← hv]; simp [execOp, ha.eval hx, hrun], ?_, g y (p ++ q) cs hnd (by rw [hxs]; exact List.perm_middle) hR⟩
      refine St.miI (es := es) (clock := c) (seen := seen.push e.born) (St.head (hs1.turn2 (o' := .mapIter (some m) c (seen.push e.born) c)) fun h ⟨j1, j2, j3, j4⟩ => ⟨j1, ?_, ?_, j4⟩)
      · rw [lefts_push hm.bd hls]; exact k1.join k2.2
      · rintro p' hp'
        injection hp' with hp'
        subst hp'
        exact ⟨seen, e, rfl, hmem, hk, cs, hR, hv⟩
theorem G.entry {x : Operand} {p : Int × β} (ho : ops[i]? = some { dst := some d, op := .entry x, type := ty, pos := ps, after := af, guard := gd }) (hw : wantedA A ops gd = some true) (hn : Nat.blt d C.n = true)
    (hx : ev A x = some (.pointer (some ⟨gi, 0, none⟩)))
    (g : ∀ cs, ek.R H p.2 cs → G C H ((d, .tuple #[.int ki p.1, ek.val cs]) :: A) (MI ki ek m gi xs todo (some p) :: L) (.inRegion ops rest :: k)) : G C H A (MI ki ek m gi xs todo (some p) :: L) (.inRegion ops (i :: rest) :: k) :=
  G.valW ho hw rfl hn fun a w ha hs => by
    obtain ⟨es, c, seen, s⟩ := hs.mi
    obtain ⟨hm, hl, hc, hb⟩ := s.meFacts
    have hr := s.rb (j := 1) rfl
    obtain ⟨s0, e, rfl, he, hk, cs, hR, hv⟩ := hc p rfl
    have hrun := run_entry_at (P := C.P) w gi m c s0 es.toArray c e hr hb (by simpa using he) (by simpa using hm.bd)
    exact ⟨.tuple #[.int ki p.1, ek.val cs], w, H, _, by rw [← hk, ← hv]; simp [execOp, ha.eval hx, hrun], hs, g cs hR⟩
/-- the loop is left -/
theorem G.miEnd (g : G C H A (MP ki ek m xs :: L) k) : G C H A (MI ki ek m gi xs todo cur :: L) k := fun a w ha hs => by
  obtain ⟨es, c, seen, s⟩ := hs.mi
  exact g a w ha (St.head s.swap.drop fun h ⟨h1, _, _, e⟩ => ⟨es, c, h1, e⟩)
/-- what came last is taken out of the map -/
theorem G.deleteI {x y : Operand} {p : Int × β} (ho : ops[i]? = some { dst := dst, op := .call { callee := .builtin .delete, args := #[x, y], argTypes := #[t, kt] }, type := ty, pos := ps, after := af, guard := gd }) (hw : wantedA A ops gd = some true) (hn : dOk C.n dst = true)
    (hx : ev A x = some (.map (some m))) (hy : ev A y = some (.int ki key)) (hkey : key = p.1) (ht : MTy C.P t kt et ki ek z0)
    (g : G C H (putA dst (.tuple #[]) A) (MI ki ek m gi (mdel xs key) todo none :: L) (.inRegion ops rest :: k)) : G C H A (MI ki ek m gi xs todo (some p) :: L) (.inRegion ops (i :: rest) :: k) := by
  subst hkey
  intro a w ha hs
  obtain ⟨es, c, seen, s⟩ := hs.mi
  obtain ⟨hm, hl, hc, hb⟩ := s.meFacts
  obtain ⟨s0, e, rfl, he, hk, cs, hR, hv⟩ := hc p rfl
  obtain ⟨p1, y1, q1, e1, e2, rfl, rfl, k1, k2⟩ := hm.ent.mid he
  have hyk : y1.1 = p.1 := by
    have := k2.1.1
    rw [hk] at this
    injection this with _ this
    exact this.symm
  obtain ⟨yk, yv⟩ := y1
  simp only at hyk
  subst hyk
  obtain ⟨hq1, hq2⟩ := nodup_mid hm.nd
  have her : (e1 ++ e :: e2).toArray.eraseIdxIfInBounds e1.length = (e1 ++ e2).toArray := by
    rw [Array.eraseIdxIfInBounds_eq]
    simp [List.eraseIdx_append_of_length_le]
  have hrun : (Builtin.delete_ #[t, kt] ty #[.map (some m), .int ki p.1]).run C.P w = .ok (.tuple #[]) (turned w m (.map (e1 ++ e2).toArray c)) := by
    simp only [Builtin.delete_, List.getElem?_toArray, List.getElem?_cons_zero, List.getElem?_cons_succ, Sem.run_bind, run_underlying ht.und, Result.andThen_ok, run_getMap hb, run_checkKey ht.key, Instr.findKey, run_underlying ht.key, List.toList_toArray, findNow_mid k1 hq1 k2, Sem.run_pure, Nat.zero_add, her, run_setMap hb]
  refine Goes.opV ho (wanted_of ha hw) (v := .tuple #[]) (w' := turned w m (.map (e1 ++ e2).toArray c)) (by simp [execOp, resolve, invoke, builtin, ha.eval hx, ha.eval hy, hrun]) (g _ _ (ha.putD hn _) ?_)
  refine St.miI (es := e1 ++ e2) (clock := c) (seen := s0.push e.born) ?_
  refine s.turn1 (o := .map #[] 0) (fun h ⟨_, _, _, e⟩ => by subst e; simp [PH.one]) ⟨⟨?_, ?_, ?_, ?_⟩, ?_, fun _ h => by (cases h), rfl⟩
  · rw [mdel_mid hq1 hq2]; exact k1.join k2.2
  · rw [mdel_mid hq1 hq2]
    have := hm.nd
    unfold mkeys at this ⊢
    rw [List.map_append] at this ⊢
    rw [List.nodup_append] at this ⊢
    rw [List.map_cons, List.nodup_cons] at this
    exact ⟨this.1, this.2.1.2, fun a ha b hb => this.2.2 a ha b (by simp [hb])⟩
  · have := hm.bd
    rw [List.map_append] at this ⊢
    rw [List.nodup_append] at this ⊢
    rw [List.map_cons, List.nodup_cons] at this
    exact ⟨this.1, this.2.1.2, fun a ha b hb => this.2.2 a ha b (by simp [hb])⟩
  · exact fun x hx => hm.bl x (by rcases List.mem_append.1 hx with hx | hx <;> simp [hx])
  · have : lefts (e1 ++ e2) (s0.push e.born) = lefts (e1 ++ e :: e2) (s0.push e.born) := by
      unfold lefts
      rw [List.filter_append, List.filter_append, List.filter_cons]
      simp
    rw [this]; exact hl
end
end Go.Proofs.Ytpffemcpfddjbaa.K
