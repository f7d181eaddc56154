/- The judgement 'G': stores, new blocks, slices, strings, calls (own text). -/
import Derived.Test.YtpffemcpfddjbaaMem
import Derived.Lib.ConvBytes
namespace Go.Proofs.Ytpffemcpfddjbaa.K
open Go

/-! ### Stores -/
theorem set_mid {α : Type} (p : List α) (u v : α) (r : List α) : (p ++ u :: r).set p.length v = p ++ v :: r := by
  rw [List.set_append]
  simp
theorem ph_setCells (b : Nat) (t : TypeId) (fz : Nat × Nat) (r : List Value) : ∀ (vs c p : List Value) (w : World), c.length = vs.length → ph w b = some (.cells (p ++ c ++ r).toArray t fz) →
    ph (w.setCells b p.length vs) = (fun x => if x = b then some (.cells (p ++ vs ++ r).toArray t fz) else ph w x) ∧ (w.setCells b p.length vs).os = w.os ∧ (w.setCells b p.length vs).tape = w.tape ∧ (w.setCells b p.length vs).output = w.output
  | [], c, p, w, hl, hb => by
    have : c = [] := List.eq_nil_of_length_eq_zero hl
    subst this
    refine ⟨?_, rfl, rfl, rfl⟩
    funext x
    by_cases hx : x = b
    · subst hx; show ph w x = _; simpa using hb
    · simp [hx, World.setCells]
  | v :: vs, [], p, w, hl, hb => by cases hl
  | v :: vs, u :: c, p, w, hl, hb => by
    have hb' : w.heap[b]? = some (.cells (p ++ u :: c ++ r).toArray t fz) := hb
    have h1 : ph (w.setCell ⟨b, p.length, none⟩ v) = fun x => if x = b then some (.cells ((p ++ [v]) ++ c ++ r).toArray t fz) else ph w x := by
      funext x
      simp only [ph, World.setCell, Array.getElem?_modify]
      by_cases hx : x = b
      · subst hx
        simp only [if_true, hb', Option.map_some]
        have : ((p ++ u :: c ++ r).toArray.setIfInBounds p.length v) = ((p ++ [v]) ++ c ++ r).toArray := by
          rw [List.append_assoc, List.cons_append, List.setIfInBounds_toArray, set_mid]
          simp
        simp [this]
      · rw [if_neg (fun e => hx e.symm), if_neg hx]
    have ih := ph_setCells b t fz r vs c (p ++ [v]) (w.setCell ⟨b, p.length, none⟩ v) (by simpa using hl) (by rw [h1]; exact if_pos rfl)
    simp only [List.length_append, List.length_cons, List.length_nil, Nat.zero_add] at ih
    refine ⟨?_, ih.2.1, ih.2.2.1, ih.2.2.2⟩
    show ph ((w.setCell ⟨b, p.length, none⟩ v).setCells b (p.length + 1) vs) = _
    rw [ih.1, h1]
    funext x
    by_cases hx : x = b
    · simp [hx]
    · simp [hx]
theorem St.turnE {w O : World} {H : PH} {L : List Res} {r r' : Res} {Run : World → Prop} (s : St w O H (r :: L))
    (hfp : ∀ h, r.holds H h → h.le (ph w) → ∃ w' h', Run w' ∧ r'.holds H h' ∧ (∀ b, h b = none ↔ h' b = none) ∧ h'.le (ph w') ∧ (∀ b, h b = none → ph w' b = ph w b) ∧ w'.os = w.os ∧ w'.tape = w.tape ∧ w'.output = w.output) :
    ∃ w', Run w' ∧ St w' O H (r' :: L) := by
  obtain ⟨h, ⟨k1, k2, d, rfl, a, sL⟩, dd, b, c⟩ := s.heap
  rw [PH.disj_un] at dd
  have c1 : k1.le (ph w) := PH.le_trans (PH.le_un_left _ _) c
  have c2 : k2.le (ph w) := PH.le_trans (PH.le_un_right d) c
  obtain ⟨w', k1', hrun, a', hdom, hle, hrest, ho, ht, hout⟩ := hfp k1 a c1
  have dj : ∀ {l : PH}, l.disj k1 → l.disj k1' := fun {l} dl x => by
    rcases dl x with y | y
    · exact .inl y
    · exact .inr ((hdom x).1 y)
  have keep : ∀ {l : PH}, l.disj k1 → l.le (ph w) → l.le (ph w') := fun {l} dl el x o e => by
    rcases dl x with y | y
    · rw [y] at e; cases e
    · rw [hrest x y]; exact el x o e
  exact ⟨w', hrun, ⟨k1'.un k2, ⟨k1', k2, PH.disj_symm (dj (PH.disj_symm d)), rfl, a', sL⟩, PH.disj_un.2 ⟨dj dd.1, dd.2⟩, keep dd.1 b, PH.un_le hle (keep (PH.disj_symm d) c2)⟩, ho.trans s.os, ht.trans s.tape, hout.trans s.output⟩
/-- A value that reads as a datum. -/
def VR {α : Type} (d : Kd α) (H : PH) (x : α) (v : Value) : Prop := ∃ cs, d.R H x cs ∧ v.cells = cs.toArray
theorem VR.I (k : IntKind) (H : PH) (n : Int) : VR (Kd.int k) H n (.int k n) := ⟨_, rfl, rfl⟩
theorem VR.B8 (H : PH) (n : UInt8) : VR Kd.u8 H n (u8V n) := ⟨_, rfl, rfl⟩
theorem VR.B (H : PH) (b : Bool) : VR Kd.bool H b (.bool b) := ⟨_, rfl, rfl⟩
theorem VR.S (H : PH) (s : Str) : VR Kd.str H s (strV s) := ⟨_, rfl, rfl⟩
theorem VR.H_ (H : PH) (B : Option Addr) (m c : Nat) : VR Kd.hdr H (B, m, c) (.slice B m c) := ⟨_, rfl, rfl⟩
theorem VR.P (H : PH) (B : Option Addr) : VR Kd.ptr H B (.pointer B) := ⟨_, rfl, rfl⟩
theorem VR.M (H : PH) (B : Option Nat) : VR Kd.mapr H B (.map B) := ⟨_, rfl, rfl⟩
theorem VR.L {α : Type} {d : Kd α} {H : PH} {B : Option Addr} {c : Nat} {xs : List α} (h : SlR d H B c xs) : VR (Kd.sl d) H xs (.slice B xs.length c) := ⟨_, ⟨B, c, rfl, h⟩, rfl⟩
theorem VR.nil {α : Type} {d : Kd α} {H : PH} : VR (Kd.sl d) H [] (.slice none 0 0) := VR.L (SlR.nil none 0)
theorem VR.A {α : Type} {d : Kd α} {H : PH} {x : α} {cs : List Value} (h : d.R H x cs) : VR d H x (.agg cs.toArray) := ⟨cs, h, rfl⟩
theorem VR.of {α : Type} {d : Kd α} {H : PH} {x : α} {cs : List Value} (h : d.R H x cs) : VR d H x (d.val cs) := ⟨cs, h, d.val_cells h⟩
theorem run_storeAt {P : Program} {t : TypeId} {v : Value} {cs : List Value} (hv : v.cells = cs.toArray) (h1 : ∀ u ∈ cs, u.oneCell' = true) {w : World} {b o : Nat} (ht : w.there b o cs.length) (hz : (P.info? t).map (·.size) = some cs.length) :
    (Instr.storeAt t (.pointer (some ⟨b, o, none⟩)) v).run P w = .ok () (w.setCells b o cs) := by
  have hst := run_storeCells_cells (P := P) b o cs 0 w (fun j hj => (ht j hj).1) (fun j hj => (ht j hj).2) h1
  simp only [Nat.add_zero] at hst
  simp only [Instr.storeAt, Instr.sureAddr, Sem.run_bind, Sem.run_pure, Result.andThen_ok, storeVar, run_sizeOf hz, hv, List.size_toArray]
  simp [hst]
theorem there_of {w : World} {b : Nat} {cells : List Value} {t : TypeId} {fz : Nat × Nat} (hb : ph w b = some (.cells cells.toArray t fz)) (hf : ∀ o, o < cells.length → ¬ (fz.1 ≤ o ∧ o < fz.2)) {p c r : List Value} (e : cells = p ++ c ++ r) : w.there b p.length c.length := by
  intro j hj
  have hb' : w.heap[b]? = some (.cells cells.toArray t fz) := hb
  have hlt : p.length + j < cells.length := by rw [e]; simp; omega
  constructor
  · simp [World.cell?, hb', hlt]
  · obtain ⟨lo, hi⟩ := fz
    have := hf _ hlt
    simp only [World.frozen?, hb']
    simp only [Bool.and_eq_false_iff, decide_eq_false_iff_not]
    by_cases h1 : lo ≤ p.length + j
    · right; intro h2; exact this ⟨h1, h2⟩
    · left; exact h1
def evPs (A : List (Nat × Value)) : List (Nat × Operand) → Option (List (Nat × Value))
  | [] => some []
  | (j, x) :: r => match ev A x, evPs A r with
    | some v, some l => some ((j, v) :: l)
    | _, _ => none
theorem Slots.evPs {n : Nat} {a : Act} {A : List (Nat × Value)} (h : Slots n a A) : ∀ {xs : List (Nat × Operand)} {vs : List (Nat × Value)}, evPs A xs = some vs → xs.map (fun x => (x.1, a.eval x.2)) = vs
  | [], vs, hv => by simp [K.evPs] at hv; simp [hv]
  | (j, x) :: r, vs, hv => by
    simp only [K.evPs] at hv
    split at hv
    · rename_i v l h1 h2
      injection hv with hv
      subst hv
      simp [h.eval h1, h.evPs h2]
    · cases hv
theorem madeCells_eq (cz : List Value) (c s : Nat) (hs : cz.length = s) (h0 : 0 < s) : ((Array.range (c * s)).map (cz.toArray[· % cz.toArray.size]!)) = (List.flatten (List.replicate c cz)).toArray := by
  apply Array.ext'
  simp only [Array.toList_map, Array.toList_range, List.size_toArray]
  induction c with
  | zero => simp
  | succ c ih =>
    rw [Nat.succ_mul, Nat.add_comm, List.range_add, List.map_append, List.replicate_succ, List.flatten_cons, ← ih]
    congr 1
    · apply List.ext_getElem
      · simp [hs]
      · intro j h1 h2
        have hj : j < cz.length := h2
        simp [Nat.mod_eq_of_lt hj, hj]
    · rw [List.map_map]
      apply List.map_congr_left
      intro j _
      simp [← hs]
section
variable {C : Cx} {H : PH} {A : List (Nat × Value)} {Ls L : List Res} {k : List Item}
variable {ops : Array Oper} {i : Nat} {rest : List Nat} {d : Nat} {ty : TypeId} {ps : String} {af : Array Edge} {gd : Option (Nat × Bool)}
/-- a store into a variable of one's own, which stands first -/
theorem G.store {α β : Type} {dk : Kd α} {df : Kd β} {off g : Nat} {get : α → β} {set : α → β → α} {x0 x1 : α} {y : β} {tb t : TypeId} {x z : Operand} {v : Value}
    (ho : ops[i]? = some { dst := none, op := .store t x z, type := ty, pos := ps, after := af, guard := gd }) (hw : wantedA A ops gd = some true)
    (hx : ev A x = some (.pointer (some ⟨g, off, none⟩))) (hz : ev A z = some v) (l : Lens dk off df get set x0) (hv : VR df H y v) (hsz : (C.P.info? t).map (·.size) = some df.sz) (he : set x0 y = x1)
    (gg : G C H A (BK tb dk g x1 :: L) (.inRegion ops rest :: k)) : G C H A (BK tb dk g x0 :: L) (.inRegion ops (i :: rest) :: k) := by
  refine G.unitW ho hw rfl fun a w ha hs => ?_
  obtain ⟨cs, hcs, hvc⟩ := hv
  obtain ⟨w', hrun, hst⟩ := hs.turnE (r' := BK tb dk g x1) (Run := fun w' => (execOp a.eval { dst := none, op := .store t x z, type := ty, pos := ps, after := af, guard := gd }).run C.P w = .ok .skip w') (by
    rintro h ⟨c0, r0, rfl⟩ hle
    obtain ⟨p, c, q, rfl, hp, hc, hset⟩ := l.get_ r0
    have hb := PH.le_one hle
    have hlen : c.length = cs.length := by rw [df.len hc, df.len hcs]
    have hth : w.there g off cs.length := by
      have := there_of hb (fun o _ => by simp) (p := p) (c := c) (r := q) rfl
      rw [hp, hlen] at this
      exact this
    have hrun := run_storeAt (P := C.P) (t := t) hvc (df.one hcs) hth (by rw [hsz, df.len hcs])
    obtain ⟨e1, e2, e3, e4⟩ := ph_setCells g tb (0, 0) q cs c p w hlen (by simpa using hb)
    rw [hp] at e1 e2 e3 e4
    refine ⟨w.setCells g off cs, PH.one g (.cells (p ++ cs ++ q).toArray tb (0, 0)), by simp [execOp, ha.eval hx, ha.eval hz, hrun], ⟨_, he ▸ hset y cs hcs, rfl⟩, fun b => by simp only [PH.one]; split <;> simp, PH.one_le (by rw [e1]; simp), fun b hb' => ?_, e2, e3, e4⟩
    rw [e1]
    simp only [PH.one] at hb'
    split at hb'
    · cases hb'
    · rename_i hne; simp [hne])
  exact ⟨w', H, _, hrun, hst, gg⟩
/-- a store into a slice of one's own, which stands first -/
theorem G.storeO {α β : Type} {dk : Kd α} {df : Kd β} {off o c j : Nat} {get : α → β} {set : α → β → α} {xs xs' : List α} {hj : j < xs.length} {y : β} {e t : TypeId} {B : Option Addr} {x z : Operand} {v : Value}
    (ho : ops[i]? = some { dst := none, op := .store t x z, type := ty, pos := ps, after := af, guard := gd }) (hw : wantedA A ops gd = some true)
    (hx : ev A x = some (.pointer (some (plc B o)))) (hz : ev A z = some v) (l : Lens dk off df get set xs[j]) (hoo : o = j * dk.sz + off) (hv : VR df H y v) (hsz : (C.P.info? t).map (·.size) = some df.sz) (he : xs.set j (set xs[j] y) = xs')
    (gg : G C H A (OS e dk B c xs' :: L) (.inRegion ops rest :: k)) : G C H A (OS e dk B c xs :: L) (.inRegion ops (i :: rest) :: k) := by
  subst hoo
  refine G.unitW ho hw rfl fun a w ha hs => ?_
  obtain ⟨cs, hcs, hvc⟩ := hv
  obtain ⟨w', hrun, hst⟩ := hs.turnE (r' := OS e dk B c xs') (Run := fun w' => (execOp a.eval { dst := none, op := .store t x z, type := ty, pos := ps, after := af, guard := gd }).run C.P w = .ok .skip w') (by
    rintro h ⟨hl, ⟨rfl, _⟩ | ⟨g, sp, c0, rs, fz, rfl, hrows, hn, hf, rfl⟩⟩ hle
    · omega
    obtain ⟨p1, q1, rfl, hr1, hr2⟩ := hrows.split
    obtain ⟨p, m, q, rfl, hp, hm, hset⟩ := hr1.set hj
    obtain ⟨p', m', q', rfl, hp', hm', hset'⟩ := l.get_ hm
    have hb := PH.le_one hle
    have hlen : m'.length = cs.length := by rw [df.len hm', df.len hcs]
    have hpl : (p ++ p').length = j * dk.sz + off := by rw [List.length_append, hp, hp']
    have hth : w.there g (j * dk.sz + off) cs.length := by
      have := there_of hb hf.at_ (p := p ++ p') (c := m') (r := q' ++ q ++ q1 ++ rs) (by simp)
      rw [hpl, hlen] at this
      exact this
    have hrun := run_storeAt (P := C.P) (t := t) hvc (df.one hcs) hth (by rw [hsz, df.len hcs])
    obtain ⟨e1, e2, e3, e4⟩ := ph_setCells g e fz (q' ++ q ++ q1 ++ rs) cs m' (p ++ p') w hlen (by simpa using hb)
    rw [hpl] at e1 e2 e3 e4
    have hnew := hset _ _ (hset' y cs hcs)
    refine ⟨w.setCells g (j * dk.sz + off) cs, PH.one g (.cells (p ++ p' ++ cs ++ (q' ++ q ++ q1 ++ rs)).toArray e fz), by simp [execOp, ha.eval hx, ha.eval hz, plc, adr, hrun], ?_, fun b => by simp only [PH.one]; split <;> simp, PH.one_le (by rw [e1]; simp), fun b hb' => ?_, e2, e3, e4⟩
    · subst he
      refine ⟨by rw [List.length_set]; exact hl, .inr ⟨g, sp, p ++ (p' ++ cs ++ q') ++ q ++ q1, rs, fz, rfl, Rows.append hnew hr2, by simpa using hn, hf.of ?_, ?_⟩⟩
      · simp only [List.length_append]; omega
      · congr 2; simp
    · rw [e1]
      simp only [PH.one] at hb'
      split at hb'
      · cases hb'
      · rename_i hne; simp [hne])
  exact ⟨w', H, _, hrun, hst, gg⟩

/-! ### New blocks -/
theorem G.alloc {α : Type} {dk : Kd α} {x0 : α} {t : TypeId} {z : Value} {cs : List Value} (ho : ops[i]? = some { dst := some d, op := .alloc t, type := ty, pos := ps, after := af, guard := gd }) (hw : wantedA A ops gd = some true) (hn : Nat.blt d C.n = true)
    (hz : (C.P.info? t).bind (·.zero) = some z) (hzc : z.cells = cs.toArray) (hR : ∀ H, dk.R H x0 cs)
    (gg : ∀ g, G C H ((d, .pointer (some ⟨g, 0, none⟩)) :: A) (BK t dk g x0 :: Ls) (.inRegion ops rest :: k)) : G C H A Ls (.inRegion ops (i :: rest) :: k) :=
  G.valW ho hw rfl hn fun a w ha hs => by
    refine ⟨_, w.alloc (.cells cs.toArray t), H, BK t dk w.heap.size x0 :: Ls, ?_, hs.alloc _ ⟨cs, hR H, rfl⟩, gg _⟩
    cases hq : C.P.info? t with
    | none => simp [hq] at hz
    | some ii =>
      simp [hq] at hz
      simp [execOp, Instr.alloc, zeroValue, typeInfo, hq, hz, newVar, newRow, hzc]
theorem G.box {α : Type} {dk : Kd α} {y : α} {t : TypeId} {x : Operand} {v : Value} (ho : ops[i]? = some { dst := some d, op := .box t x, type := ty, pos := ps, after := af, guard := gd }) (hw : wantedA A ops gd = some true) (hn : Nat.blt d C.n = true)
    (hx : ev A x = some v) (hv : VR dk H y v)
    (gg : ∀ g, G C H ((d, .pointer (some ⟨g, 0, none⟩)) :: A) (BK t dk g y :: Ls) (.inRegion ops rest :: k)) : G C H A Ls (.inRegion ops (i :: rest) :: k) :=
  G.valW ho hw rfl hn fun a w ha hs => by
    obtain ⟨cs, hcs, hvc⟩ := hv
    exact ⟨_, w.alloc (.cells cs.toArray t), H, BK t dk w.heap.size y :: Ls, by simp [execOp, ha.eval hx, Instr.box, newVar, newRow, hvc], hs.alloc _ ⟨cs, hcs, rfl⟩, gg _⟩
theorem G.buildSlice {α : Type} {df : Kd α} {xs : List α} {t e : TypeId} {m by_ : Nat} {parts : Array (Nat × Operand)} {pvs : List (Nat × Value)} {z : Value} {cz cs : List Value} (ho : ops[i]? = some { dst := some d, op := .buildSlice t m parts, type := ty, pos := ps, after := af, guard := gd }) (hw : wantedA A ops gd = some true) (hn : Nat.blt d C.n = true)
    (ht : ElOk C.P t e df by_) (hz : (C.P.info? e).bind (·.zero) = some z) (hp : evPs A parts.toList = some pvs) (hm : xs.length = m) (hsm : Nat.ble (m * df.sz) 16777216 = true) (hm0 : (m * df.sz == 0) = false)
    (hzc : z.cells = cz.toArray) (hzl : cz.length = df.sz) (hfill : Instr.fill (fun i => some (i * df.sz, df.sz)) (List.flatten (List.replicate m cz)).toArray pvs = some cs.toArray) (hR : Rows df H xs cs)
    (gg : ∀ B, G C H ((d, .slice B xs.length m) :: A) (OS e df B m xs :: Ls) (.inRegion ops rest :: k)) : G C H A Ls (.inRegion ops (i :: rest) :: k) :=
  G.valW ho hw rfl hn fun a w ha hs => by
    refine ⟨.slice (some ⟨w.heap.size, 0, none⟩) xs.length m, w.alloc (.cells cs.toArray e), H, OS e df (some ⟨w.heap.size, 0, none⟩) m xs :: Ls, ?_, hs.alloc _ ⟨by omega, .inr ⟨w.heap.size, [], cs, [], (0, 0), rfl, by simpa using hR, by simpa using hm, .zero, by simp⟩⟩, ?_⟩
    · have hpe : parts.map (fun (x : Nat × Operand) => (x.1, a.eval x.2)) = pvs.toArray := by
        rw [← ha.evPs hp]; exact (List.map_toArray ..).symm ▸ rfl
      have hz' : (zeroValue e).run C.P w = .ok z w := by
        cases hq : C.P.info? e with
        | none => simp [hq] at hz
        | some ii => simp [hq] at hz; simp [zeroValue, typeInfo, hq, hz]
      have h1 : ¬ (m * df.sz > 16777216) := by have := Nat.le_of_ble_eq_true hsm; omega
      have h2 : ¬ (m * df.sz = 0) := by simpa using hm0
      simp only [execOp, Instr.buildSlice, Sem.run_bind, run_underlying ht.und, Result.andThen_ok, run_sizeOf ht.size]
      rw [if_neg (by simpa using h1), if_neg h2]
      simp only [Sem.run_bind, Sem.run_pure, hz', Result.andThen_ok]
      have hpe' : (parts.map fun x => match x with | (i, x) => (i, a.eval x)) = pvs.toArray := hpe
      have hpos : 0 < df.sz := by
        rcases Nat.eq_zero_or_pos df.sz with h | h
        · exact absurd (by rw [h, Nat.mul_zero]) h2
        · exact h
      rw [hpe', hzc, madeCells_eq cz m df.sz hzl hpos, hfill]
      simp [newRow, hm]
    · exact gg _
theorem G.makeSlice {α : Type} {df : Kd α} {z0 : α} {t e : TypeId} {by_ : Nat} {x y : Operand} {kd kd' : IntKind} {m c : Int} {z : Value} {cz : List Value} (ho : ops[i]? = some { dst := some d, op := .makeSlice t x y, type := ty, pos := ps, after := af, guard := gd }) (hw : wantedA A ops gd = some true) (hn : Nat.blt d C.n = true)
    (hx : ev A x = some (.int kd m)) (hy : ev A y = some (.int kd' c)) (ht : ElOk C.P t e df by_) (hz : (C.P.info? e).bind (·.zero) = some z) (hzc : z.cells = cz.toArray) (hR : df.R H z0 cz) (hsz : (df.sz == 0) = false)
    (hb : 0 ≤ m ∧ m ≤ c ∧ c * by_ ≤ 281474976710656 ∧ c ≤ 281474976710656)
    (gg : ∀ B, G C H ((d, .slice B m.toNat c.toNat) :: A) (OS e df B c.toNat (List.replicate m.toNat z0) :: Ls) (.inRegion ops rest :: k)) : G C H A Ls (.inRegion ops (i :: rest) :: k) :=
  G.valW ho hw rfl hn fun a w ha hs => by
    obtain ⟨h0, h1, h2, h3⟩ := hb
    have hzl : cz.length = df.sz := df.len hR
    have hsz' : ¬ df.sz = 0 := by simpa using hsz
    have hcells : ((Array.range (c.toNat * df.sz)).map (z.cells[· % z.cells.size]!)) = (List.flatten (List.replicate c.toNat cz)).toArray := by
      rw [hzc]; exact madeCells_eq cz c.toNat df.sz hzl (by omega)
    refine ⟨.slice (some ⟨w.heap.size, 0, none⟩) m.toNat c.toNat, w.alloc (.cells (List.flatten (List.replicate c.toNat cz)).toArray e), H, OS e df (some ⟨w.heap.size, 0, none⟩) c.toNat (List.replicate m.toNat z0) :: Ls, ?_, hs.alloc _ ⟨by simp; omega, .inr ⟨w.heap.size, List.replicate (c.toNat - m.toNat) z0, List.flatten (List.replicate c.toNat cz), [], (0, 0), rfl, ?_, by simp; omega, .zero, by rw [List.append_nil]⟩⟩, gg _⟩
    · have hq : ∃ ii, C.P.info? e = some ii ∧ ii.size = df.sz ∧ ii.bytes = by_ := by
        have := ht.info
        cases hq : C.P.info? e with
        | none => simp [hq] at this
        | some ii => simp [hq] at this; exact ⟨ii, rfl, this.1, this.2⟩
      obtain ⟨ii, hq, hs1, hs2⟩ := hq
      have hzz : ii.zero = some z := by rw [hq] at hz; exact hz
      have wl : IntKind.i64.wrap m = m := by rw [wrap_wr]; simp only [wr, wi64]; omega
      have wc : IntKind.i64.wrap c = c := by rw [wrap_wr]; simp only [wr, wi64]; omega
      have hby : (by_ : Int) * c ≤ 281474976710656 := by rw [Int.mul_comm]; exact h2
      simp only [execOp, ha.eval hx, ha.eval hy, Instr.makeSlice, Sem.run_bind, run_underlying ht.und, Result.andThen_ok, asInt, asIntOf, Sem.run_pure, typeInfo, run_program, hq, hs2, wl, wc]
      have ht1 : (decide (c < 0) || decide ((by_ : Int) * c > 2 ^ 48) || decide (m < 0) || decide (m > c)) = false := by
        simp only [Bool.or_eq_false_iff, decide_eq_false_iff_not]
        refine ⟨⟨⟨by omega, ?_⟩, by omega⟩, by omega⟩
        have : (2 : Int) ^ 48 = 281474976710656 := by decide
        omega
      rw [ht1]
      simp only [Bool.false_eq_true, if_false, Sem.run_bind, run_askRoom, Result.andThen_ok, run_sizeOf ht.size]
      by_cases hc0 : c.toNat * df.sz = 0
      · have hc00 : c.toNat = 0 := by
          rcases Nat.mul_eq_zero.1 hc0 with h | h
          · exact h
          · exact absurd h hsz'
        rw [if_pos hc0]
        simp [newRow, hc00]
        rw [show Array.range 0 = #[] from Array.ext' (by simp), Array.map_empty]
      · rw [if_neg hc0]
        simp only [Sem.run_bind, zeroValue, typeInfo, run_program, hq, hzz, Sem.run_pure, Result.andThen_ok, newRow, run_newObj, hcells]
        rfl
    · rw [List.replicate_append_replicate, show m.toNat + (c.toNat - m.toNat) = c.toNat by omega]
      exact Rows.replicate hR _
end
end Go.Proofs.Ytpffemcpfddjbaa.K
