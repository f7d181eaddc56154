/- The judgement 'G': rules for what reads and writes the heap (own text). -/
import Derived.Test.YtpffemcpfddjbaaGo
namespace Go.Proofs.Ytpffemcpfddjbaa.K
open Go

structure TyOk {α : Type} (P : Program) (t : TypeId) (d : Kd α) : Prop where
  size : (P.info? t).map (·.size) = some d.sz
  und : ∃ ds, P.underlying t = some ds ∧ ds.isRow = d.agg
/-- as the elements of a slice type -/
structure ElOk {α : Type} (P : Program) (t e : TypeId) (d : Kd α) (bytes : Nat) : Prop where
  und : P.underlying t = some (.slice e)
  info : (P.info? e).map (fun i => (i.size, i.bytes)) = some (d.sz, bytes)
theorem run_sizeOf {P : Program} {t : TypeId} {n : Nat} (h : (P.info? t).map (·.size) = some n) (w : World) : (sizeOf t).run P w = .ok n w := by
  cases hq : P.info? t with
  | none => simp [hq] at h
  | some i => simp [hq] at h; simp [sizeOf, typeInfo, hq, h]
theorem ElOk.size {α : Type} {P : Program} {t e : TypeId} {d : Kd α} {b : Nat} (h : ElOk P t e d b) : (P.info? e).map (·.size) = some d.sz := by
  have := h.info
  cases hq : P.info? e with
  | none => simp [hq] at this
  | some i => simp [hq] at this; simp [this.1]

/-! ### Reading -/
def nthR : List Res → Nat → Option Res
  | [], _ => none
  | r :: _, 0 => some r
  | _ :: L, n + 1 => nthR L n
theorem Sats.nth {H : PH} : ∀ {L : List Res} {h : PH} {j : Nat} {r : Res}, Sats H L h → nthR L j = some r → ∃ h', r.holds H h' ∧ h'.le h
  | _ :: _, _, 0, _, ⟨h1, h2, d, u, a, s⟩, e => by
    simp only [nthR] at e
    injection e with e
    subst e
    exact ⟨h1, a, by rw [u]; exact PH.le_un_left _ _⟩
  | _ :: L, _, j + 1, r, ⟨h1, h2, d, u, a, s⟩, e => by
    simp only [nthR] at e
    obtain ⟨h', x, y⟩ := Sats.nth s e
    exact ⟨h', x, by rw [u]; exact PH.le_trans y (PH.le_un_right d)⟩
theorem St.nth {w O : World} {H : PH} {L : List Res} {j : Nat} {r : Res} (s : St w O H L) (e : nthR L j = some r) : ∃ h', r.holds H h' ∧ h'.le (ph w) := by
  obtain ⟨h, sL, _, _, c⟩ := s.heap
  obtain ⟨h', x, y⟩ := sL.nth e
  exact ⟨h', x, PH.le_trans y c⟩
theorem range_of {w : World} {b : Nat} {cells : Array Value} {t : TypeId} {fz : Nat × Nat} (hb : ph w b = some (.cells cells t fz)) {off : Nat} {cs : List Value} (h : Sits cells.toList off cs) : w.rangeAt b off cs := by
  intro j v hv
  have := h.get hv
  simp only [ph] at hb
  simp only [World.cell?, hb]
  simpa using this
/-- At an address a datum can be read. -/
def Rd {α : Type} (w : World) (H : PH) (d : Kd α) (a : Addr) (x : α) : Prop := a.spot = none ∧ ∃ cs, d.R H x cs ∧ w.rangeAt a.block a.off cs
theorem Rd.ro {α : Type} {d : Kd α} {H : PH} {a : Addr} {x : α} (h : PtR d H a x) {w O : World} {L : List Res} (s : St w O H L) : Rd w H d a x := by
  obtain ⟨sp, cells, t, f, cs, hb, sit, r⟩ := h
  exact ⟨sp, cs, r, range_of (s.ro _ _ hb) sit⟩
theorem Rd.bk {α β : Type} {d : Kd α} {df : Kd β} {off : Nat} {get : α → β} {set : α → β → α} {x : α} (l : Lens d off df get set x) {w O : World} {H : PH} {L : List Res} {j g : Nat} {t : TypeId}
    (s : St w O H L) (e : nthR L j = some (BK t d g x)) : Rd w H df ⟨g, off, none⟩ (get x) := by
  obtain ⟨h', ⟨cs, r, rfl⟩, hle⟩ := s.nth e
  obtain ⟨p, c, q, rfl, hp, hc, _⟩ := l.get_ r
  refine ⟨rfl, c, hc, ?_⟩
  refine range_of (PH.le_one hle) ?_
  exact ⟨p, q, by simp, hp⟩
/-- the i-th of a slice of one's own -/
theorem OS.at_ {α : Type} {t : TypeId} {d : Kd α} {A : Option Addr} {c : Nat} {xs : List α} {H h : PH} (r : (OS t d A c xs).holds H h) {i : Nat} (hi : i < xs.length) :
    ∃ g cells fz p q z, A = some ⟨g, 0, none⟩ ∧ h = PH.one g (.cells cells t fz) ∧ cells.toList = p ++ q ++ z ∧ p.length = i * d.sz ∧ d.R H xs[i] q := by
  obtain ⟨l, ⟨rfl, _⟩ | ⟨g, sp, cs, rest, fz, rfl, rw_, n, f, rfl⟩⟩ := r
  · omega
  · obtain ⟨c1, c2, rfl, h1, h2⟩ := rw_.split
    obtain ⟨p, q, z, rfl, hp, hq⟩ := h1.get hi
    exact ⟨g, _, fz, p, q, z ++ c2 ++ rest, rfl, rfl, by simp, hp, hq⟩
def adr (A : Option Addr) : Addr := A.getD ⟨0, 0, none⟩
/-- the address of the place off in a slice of one's own -/
def plc (A : Option Addr) (off : Nat) : Addr := ⟨(adr A).block, off, none⟩
theorem Rd.os {α β : Type} {d : Kd α} {df : Kd β} {off : Nat} {get : α → β} {set : α → β → α} {xs : List α} {i : Nat} {hi : i < xs.length} (l : Lens d off df get set xs[i]) {w O : World} {H : PH} {L : List Res} {j c : Nat} {A : Option Addr} {t : TypeId}
    (s : St w O H L) (e : nthR L j = some (OS t d A c xs)) {o : Nat} (ho : o = i * d.sz + off) : Rd w H df (plc A o) (get xs[i]) := by
  subst ho
  obtain ⟨h', r, hle⟩ := s.nth e
  obtain ⟨g, cells, fz, p, q, z, rfl, rfl, hcells, hp, hq⟩ := OS.at_ r hi
  obtain ⟨p', c', z', rfl, hp', hc', _⟩ := l.get_ hq
  refine ⟨rfl, c', hc', ?_⟩
  refine range_of (PH.le_one hle) ?_
  exact ⟨p ++ p', z' ++ z, by rw [hcells]; simp, by rw [List.length_append, hp, hp']; rfl⟩
theorem Rd.run {α : Type} {w : World} {H : PH} {d : Kd α} {a : Addr} {x : α} (h : Rd w H d a x) {P : Program} {t : TypeId} (ht : TyOk P t d) :
    ∃ cs, d.R H x cs ∧ (Instr.loadAt t (.pointer (some a))).run P w = .ok (d.val cs) w := by
  obtain ⟨sp, cs, r, hr⟩ := h
  refine ⟨cs, r, ?_⟩
  obtain ⟨ds, hu, hrow⟩ := ht.und
  have ha : a = ⟨a.block, a.off, none⟩ := by cases a; simp_all
  unfold Kd.val
  cases hg : d.agg with
  | true =>
    rw [hg] at hrow
    have := run_loadAt_mid (P := P) w a.block a.off t cs ds hr hu hrow (by rw [d.len r]; exact ht.size)
    rw [← ha] at this
    simpa using this
  | false =>
    rw [hg] at hrow
    have hl := d.len r
    rw [d.flat hg] at hl
    match cs, hl with
    | [u], _ =>
      have hc : w.cell? a = some u := by
        have := hr 0 u rfl
        rw [Nat.add_zero, ← ha] at this
        exact this
      have hagg : (isAgg t).run P w = .ok false w := by
        unfold isAgg
        rw [Sem.run_bind, run_underlying hu w]
        cases ds <;> first | rfl | cases hrow
      simp only [Instr.loadAt, Instr.sureAddr, Sem.run_bind, Sem.run_pure, Result.andThen_ok, loadVar, hagg]
      show (load a).run P w = .ok u w
      rw [run_load, hc]

section
variable {C : Cx} {H : PH} {A : List (Nat × Value)} {Ls : List Res} {k : List Item}
variable {ops : Array Oper} {i : Nat} {rest : List Nat} {d : Nat} {ty : TypeId} {ps : String} {af : Array Edge} {gd : Option (Nat × Bool)}
/-- An operation whose value is known but for what it must be. -/
theorem G.valE {o : Oper} {d : Nat} {p : Value → Prop} (ho : ops[i]? = some o) (hw : wantedA A ops o.guard = some true) (hd : o.dst = some d) (hn : Nat.blt d C.n = true)
    (h : ∀ a w, Slots C.n a A → St w C.O H Ls → ∃ v, p v ∧ (execOp a.eval o).run C.P w = .ok (.value v) w) (g : ∀ v, p v → G C H ((d, v) :: A) Ls (.inRegion ops rest :: k)) : G C H A Ls (.inRegion ops (i :: rest) :: k) :=
  G.valW ho hw hd hn fun a w ha hs => by
    obtain ⟨v, hp, hr⟩ := h a w ha hs
    exact ⟨v, w, H, Ls, hr, hs, g v hp⟩
theorem G.load {β : Type} {x : Operand} {t : TypeId} {a : Addr} {df : Kd β} {y : β} (ho : ops[i]? = some { dst := some d, op := .load t x, type := ty, pos := ps, after := af, guard := gd }) (hw : wantedA A ops gd = some true) (hn : Nat.blt d C.n = true)
    (hx : ev A x = some (.pointer (some a))) (ht : TyOk C.P t df) (hr : ∀ w, St w C.O H Ls → Rd w H df a y)
    (g : ∀ cs, df.R H y cs → G C H ((d, df.val cs) :: A) Ls (.inRegion ops rest :: k)) : G C H A Ls (.inRegion ops (i :: rest) :: k) :=
  G.valE (p := fun v => ∃ cs, df.R H y cs ∧ v = df.val cs) ho hw rfl hn (fun b w hb hs => by
    obtain ⟨cs, h1, h2⟩ := (hr w hs).run ht
    exact ⟨_, ⟨cs, h1, rfl⟩, by simp [execOp, hb.eval hx, h2]⟩) (by rintro v ⟨cs, h1, rfl⟩; exact g cs h1)
theorem G.loadI {x : Operand} {t : TypeId} {a : Addr} {kd : IntKind} {y : Int} (ho : ops[i]? = some { dst := some d, op := .load t x, type := ty, pos := ps, after := af, guard := gd }) (hw : wantedA A ops gd = some true) (hn : Nat.blt d C.n = true)
    (hx : ev A x = some (.pointer (some a))) (ht : TyOk C.P t (Kd.int kd)) (hr : ∀ w, St w C.O H Ls → Rd w H (Kd.int kd) a y)
    (g : G C H ((d, .int kd y) :: A) Ls (.inRegion ops rest :: k)) : G C H A Ls (.inRegion ops (i :: rest) :: k) := G.load ho hw hn hx ht hr (by rintro _ rfl; exact g)
theorem G.load8 {x : Operand} {t : TypeId} {a : Addr} {y : UInt8} (ho : ops[i]? = some { dst := some d, op := .load t x, type := ty, pos := ps, after := af, guard := gd }) (hw : wantedA A ops gd = some true) (hn : Nat.blt d C.n = true)
    (hx : ev A x = some (.pointer (some a))) (ht : TyOk C.P t Kd.u8) (hr : ∀ w, St w C.O H Ls → Rd w H Kd.u8 a y)
    (g : G C H ((d, u8V y) :: A) Ls (.inRegion ops rest :: k)) : G C H A Ls (.inRegion ops (i :: rest) :: k) := G.load ho hw hn hx ht hr (by rintro _ rfl; exact g)
theorem G.loadB {x : Operand} {t : TypeId} {a : Addr} {y : Bool} (ho : ops[i]? = some { dst := some d, op := .load t x, type := ty, pos := ps, after := af, guard := gd }) (hw : wantedA A ops gd = some true) (hn : Nat.blt d C.n = true)
    (hx : ev A x = some (.pointer (some a))) (ht : TyOk C.P t Kd.bool) (hr : ∀ w, St w C.O H Ls → Rd w H Kd.bool a y)
    (g : G C H ((d, .bool y) :: A) Ls (.inRegion ops rest :: k)) : G C H A Ls (.inRegion ops (i :: rest) :: k) := G.load ho hw hn hx ht hr (by rintro _ rfl; exact g)
theorem G.loadS {x : Operand} {t : TypeId} {a : Addr} {y : Str} (ho : ops[i]? = some { dst := some d, op := .load t x, type := ty, pos := ps, after := af, guard := gd }) (hw : wantedA A ops gd = some true) (hn : Nat.blt d C.n = true)
    (hx : ev A x = some (.pointer (some a))) (ht : TyOk C.P t Kd.str) (hr : ∀ w, St w C.O H Ls → Rd w H Kd.str a y)
    (g : G C H ((d, strV y) :: A) Ls (.inRegion ops rest :: k)) : G C H A Ls (.inRegion ops (i :: rest) :: k) := G.load ho hw hn hx ht hr (by rintro _ rfl; exact g)
theorem G.loadH {x : Operand} {t : TypeId} {a : Addr} {B : Option Addr} {m c : Nat} (ho : ops[i]? = some { dst := some d, op := .load t x, type := ty, pos := ps, after := af, guard := gd }) (hw : wantedA A ops gd = some true) (hn : Nat.blt d C.n = true)
    (hx : ev A x = some (.pointer (some a))) (ht : TyOk C.P t Kd.hdr) (hr : ∀ w, St w C.O H Ls → Rd w H Kd.hdr a (B, m, c))
    (g : G C H ((d, .slice B m c) :: A) Ls (.inRegion ops rest :: k)) : G C H A Ls (.inRegion ops (i :: rest) :: k) := G.load ho hw hn hx ht hr (by rintro _ rfl; exact g)
theorem G.loadP {x : Operand} {t : TypeId} {a : Addr} {B : Option Addr} (ho : ops[i]? = some { dst := some d, op := .load t x, type := ty, pos := ps, after := af, guard := gd }) (hw : wantedA A ops gd = some true) (hn : Nat.blt d C.n = true)
    (hx : ev A x = some (.pointer (some a))) (ht : TyOk C.P t Kd.ptr) (hr : ∀ w, St w C.O H Ls → Rd w H Kd.ptr a B)
    (g : G C H ((d, .pointer B) :: A) Ls (.inRegion ops rest :: k)) : G C H A Ls (.inRegion ops (i :: rest) :: k) := G.load ho hw hn hx ht hr (by rintro _ rfl; exact g)
theorem G.loadM {x : Operand} {t : TypeId} {a : Addr} {B : Option Nat} (ho : ops[i]? = some { dst := some d, op := .load t x, type := ty, pos := ps, after := af, guard := gd }) (hw : wantedA A ops gd = some true) (hn : Nat.blt d C.n = true)
    (hx : ev A x = some (.pointer (some a))) (ht : TyOk C.P t Kd.mapr) (hr : ∀ w, St w C.O H Ls → Rd w H Kd.mapr a B)
    (g : G C H ((d, .map B) :: A) Ls (.inRegion ops rest :: k)) : G C H A Ls (.inRegion ops (i :: rest) :: k) := G.load ho hw hn hx ht hr (by rintro _ rfl; exact g)
theorem G.loadL {β : Type} {x : Operand} {t : TypeId} {a : Addr} {df : Kd β} {y : List β} (ho : ops[i]? = some { dst := some d, op := .load t x, type := ty, pos := ps, after := af, guard := gd }) (hw : wantedA A ops gd = some true) (hn : Nat.blt d C.n = true)
    (hx : ev A x = some (.pointer (some a))) (ht : TyOk C.P t (Kd.sl df)) (hr : ∀ w, St w C.O H Ls → Rd w H (Kd.sl df) a y)
    (g : ∀ B c, SlR df H B c y → G C H ((d, .slice B y.length c) :: A) Ls (.inRegion ops rest :: k)) : G C H A Ls (.inRegion ops (i :: rest) :: k) := G.load ho hw hn hx ht hr (by rintro _ ⟨B, c, rfl, h⟩; exact g B c h)
theorem G.loadA {β : Type} {x : Operand} {t : TypeId} {a : Addr} {df : Kd β} {y : β} (ho : ops[i]? = some { dst := some d, op := .load t x, type := ty, pos := ps, after := af, guard := gd }) (hw : wantedA A ops gd = some true) (hn : Nat.blt d C.n = true)
    (hx : ev A x = some (.pointer (some a))) (ht : TyOk C.P t df) (hag : df.agg = true) (hr : ∀ w, St w C.O H Ls → Rd w H df a y)
    (g : ∀ cs, df.R H y cs → G C H ((d, .agg cs.toArray) :: A) Ls (.inRegion ops rest :: k)) : G C H A Ls (.inRegion ops (i :: rest) :: k) := G.load ho hw hn hx ht hr (fun cs h => by have := g cs h; unfold Kd.val; rw [hag]; exact this)

/-! ### Addresses -/
theorem run_fieldAt {P : Program} {s : TypeId} {fs : Array Field} {f : Field} {j m : Nat} (hs : P.underlying s = some (.struct fs)) (hf : fs[j]? = some f) (hz : (P.info? f.type).map (·.size) = some m) (hm : (m == 0) = false) (a : Addr) (w : World) :
    (Instr.fieldAt s (.pointer (some a)) j).run P w = .ok (.pointer (some (a.add f.offset))) w := by
  have hm' : ¬ m = 0 := by simpa using hm
  simp only [Instr.fieldAt, Sem.run_bind, run_underlying hs, Result.andThen_ok, hf, Instr.sureAddr, Sem.run_pure, fieldPlace, run_sizeOf hz, hm', if_false]
/-- a field of a variable of one's own, or of a slice's element -/
theorem G.field {x : Operand} {s : TypeId} {j m g off off' : Nat} {fs : Array Field} {f : Field} (ho : ops[i]? = some { dst := some d, op := .fieldAddr s x j, type := ty, pos := ps, after := af, guard := gd }) (hw : wantedA A ops gd = some true) (hn : Nat.blt d C.n = true)
    (hx : ev A x = some (.pointer (some ⟨g, off, none⟩))) (hs : C.P.underlying s = some (.struct fs)) (hf : fs[j]? = some f) (hz : (C.P.info? f.type).map (·.size) = some m) (hm : (m == 0) = false) (hoff : off + f.offset = off')
    (gg : G C H ((d, .pointer (some ⟨g, off', none⟩)) :: A) Ls (.inRegion ops rest :: k)) : G C H A Ls (.inRegion ops (i :: rest) :: k) :=
  G.val ho hw rfl hn (fun a w ha _ => by
    have e : (⟨g, off, none⟩ : Addr).add f.offset = ⟨g, off', none⟩ := by rw [add_eq rfl, ← hoff]
    simp only [execOp, ha.eval hx, Sem.run_bind, run_fieldAt hs hf hz hm, Result.andThen_ok, Sem.run_pure, e]) gg
theorem G.fieldO {x : Operand} {s : TypeId} {j m off off' : Nat} {B : Option Addr} {fs : Array Field} {f : Field} (ho : ops[i]? = some { dst := some d, op := .fieldAddr s x j, type := ty, pos := ps, after := af, guard := gd }) (hw : wantedA A ops gd = some true) (hn : Nat.blt d C.n = true)
    (hx : ev A x = some (.pointer (some (plc B off)))) (hs : C.P.underlying s = some (.struct fs)) (hf : fs[j]? = some f) (hz : (C.P.info? f.type).map (·.size) = some m) (hm : (m == 0) = false) (hoff : off + f.offset = off')
    (gg : G C H ((d, .pointer (some (plc B off'))) :: A) Ls (.inRegion ops rest :: k)) : G C H A Ls (.inRegion ops (i :: rest) :: k) := G.field ho hw hn hx hs hf hz hm hoff gg
/-- a field of what is only read -/
theorem G.fieldR {α β : Type} {df : Kd α} {dg : Kd β} {get : α → β} {set : α → β → α} {y : α} {x : Operand} {s : TypeId} {j m : Nat} {p : Addr} {fs : Array Field} {f : Field} (ho : ops[i]? = some { dst := some d, op := .fieldAddr s x j, type := ty, pos := ps, after := af, guard := gd }) (hw : wantedA A ops gd = some true) (hn : Nat.blt d C.n = true)
    (hx : ev A x = some (.pointer (some p))) (hs : C.P.underlying s = some (.struct fs)) (hf : fs[j]? = some f) (hz : (C.P.info? f.type).map (·.size) = some m) (hm : (m == 0) = false) (hp : PtR df H p y) (l : Lens df f.offset dg get set y)
    (gg : ∀ q, PtR dg H q (get y) → G C H ((d, .pointer (some q)) :: A) Ls (.inRegion ops rest :: k)) : G C H A Ls (.inRegion ops (i :: rest) :: k) :=
  G.val ho hw rfl hn (fun a w ha _ => by simp only [execOp, ha.eval hx, Sem.run_bind, run_fieldAt hs hf hz hm, Result.andThen_ok, Sem.run_pure]) (gg _ (PtR.part l hp))
theorem run_indexAt_slice {P : Program} {t e : TypeId} {n : Nat} (ht : P.underlying t = some (.slice e)) (hz : (P.info? e).map (·.size) = some n) (a : Addr) (m c : Nat) (kd : IntKind) (j : Int) (h0 : 0 ≤ j) (h1 : j < m) (w : World) :
    (Instr.indexAt t (.slice (some a) m c) (.int kd j)).run P w = .ok (.pointer (some (a.add (j.toNat * n)))) w := by
  simp [Instr.indexAt, asIntOf, run_underlying ht, h0, h1, run_sizeOf hz]
theorem run_indexAt_arr {P : Program} {t e : TypeId} {n l : Nat} (ht : P.underlying t = some (.array l e)) (hz : (P.info? e).map (·.size) = some n) (a : Addr) (kd : IntKind) (j : Int) (h0 : 0 ≤ j) (h1 : j < l) (w : World) :
    (Instr.indexAt t (.pointer (some a)) (.int kd j)).run P w = .ok (.pointer (some (a.add (j.toNat * n)))) w := by
  simp [Instr.indexAt, asIntOf, run_underlying ht, Instr.sureAddr, h0, h1, run_sizeOf hz]
/-- the element of a slice that is only read -/
theorem G.indexR {α : Type} {df : Kd α} {xs : List α} {x y : Operand} {t e : TypeId} {by_ c : Nat} {B : Option Addr} {kd : IntKind} {j : Int} (z : α) (ho : ops[i]? = some { dst := some d, op := .indexAddr t x y, type := ty, pos := ps, after := af, guard := gd }) (hw : wantedA A ops gd = some true) (hn : Nat.blt d C.n = true)
    (hx : ev A x = some (.slice B xs.length c)) (hy : ev A y = some (.int kd j)) (ht : ElOk C.P t e df by_) (hs : SlR df H B c xs) (hj : 0 ≤ j ∧ j < xs.length)
    (gg : ∀ q, PtR df H q (xs.getD j.toNat z) → G C H ((d, .pointer (some q)) :: A) Ls (.inRegion ops rest :: k)) : G C H A Ls (.inRegion ops (i :: rest) :: k) := by
  have hlt : j.toNat < xs.length := by omega
  obtain ⟨a, rfl, hp⟩ := hs.at_ hlt
  refine G.val ho hw rfl hn (fun b w hb _ => ?_) (gg _ (by simpa [List.getD, hlt] using hp))
  simp only [execOp, hb.eval hx, hb.eval hy, Sem.run_bind, run_indexAt_slice ht.und ht.size a xs.length c kd j hj.1 hj.2, Result.andThen_ok, Sem.run_pure]
/-- the element of a slice of one's own -/
theorem G.indexO {α : Type} {df : Kd α} {xs : List α} {x y : Operand} {t e : TypeId} {by_ c n r off : Nat} {B : Option Addr} {kd : IntKind} {j : Int} (ho : ops[i]? = some { dst := some d, op := .indexAddr t x y, type := ty, pos := ps, after := af, guard := gd }) (hw : wantedA A ops gd = some true) (hn : Nat.blt d C.n = true)
    (hx : ev A x = some (.slice B n c)) (hy : ev A y = some (.int kd j)) (ht : ElOk C.P t e df by_) (hs : nthR Ls r = some (OS e df B c xs)) (hn' : n = xs.length) (hj : 0 ≤ j ∧ j < xs.length) (hoff : j.toNat * df.sz = off)
    (gg : G C H ((d, .pointer (some (plc B off))) :: A) Ls (.inRegion ops rest :: k)) : G C H A Ls (.inRegion ops (i :: rest) :: k) := by
  have hlt : j.toNat < xs.length := by omega
  subst hn'
  refine G.val ho hw rfl hn (fun b w hb hst => ?_) gg
  obtain ⟨h', hr, _⟩ := hst.nth hs
  obtain ⟨g, cells, fz, p, q, z, rfl, _⟩ := OS.at_ hr hlt
  simp only [execOp, hb.eval hx, hb.eval hy, Sem.run_bind, run_indexAt_slice ht.und ht.size _ xs.length c kd j hj.1 hj.2, Result.andThen_ok, Sem.run_pure]
  rw [add_eq rfl, ← hoff]
  simp [plc, adr]
/-- the element of an array in a variable of one's own -/
theorem G.indexB {x y : Operand} {t e : TypeId} {n l g off off' : Nat} {kd : IntKind} {j : Int} (ho : ops[i]? = some { dst := some d, op := .indexAddr t x y, type := ty, pos := ps, after := af, guard := gd }) (hw : wantedA A ops gd = some true) (hn : Nat.blt d C.n = true)
    (hx : ev A x = some (.pointer (some ⟨g, off, none⟩))) (hy : ev A y = some (.int kd j)) (ht : C.P.underlying t = some (.array l e)) (hz : (C.P.info? e).map (·.size) = some n) (hj : 0 ≤ j ∧ j < l) (hoff : off + j.toNat * n = off')
    (gg : G C H ((d, .pointer (some ⟨g, off', none⟩)) :: A) Ls (.inRegion ops rest :: k)) : G C H A Ls (.inRegion ops (i :: rest) :: k) := by
  refine G.val ho hw rfl hn (fun b w hb hst => ?_) gg
  simp only [execOp, hb.eval hx, hb.eval hy, Sem.run_bind, run_indexAt_arr ht hz _ kd j hj.1 hj.2, Result.andThen_ok, Sem.run_pure]
  rw [add_eq rfl, ← hoff]
end
end Go.Proofs.Ytpffemcpfddjbaa.K
