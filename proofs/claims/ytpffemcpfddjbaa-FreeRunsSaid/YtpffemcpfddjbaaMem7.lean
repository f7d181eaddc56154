/- The judgement 'G': == of structs (own text). -/
import Derived.Test.YtpffemcpfddjbaaMem6
import Derived.Laws.StructEq
namespace Go.Proofs.Ytpffemcpfddjbaa.K
open Go
/-- Go's == tells of two of this kind whether they are the same. -/
def EqOk {α : Type} [DecidableEq α] (P : Program) (t : TypeId) (d : Kd α) (n : Nat) : Prop :=
  ∀ (H : PH) (x y : α) (cs1 cs2 : List Value) (w : World) (m : Nat), n ≤ m → d.R H x cs1 → d.R H y cs2 → (Op.equalIn m t (d.val cs1) (d.val cs2)).run P w = .ok (decide (x = y)) w
def EqFs {α : Type} [DecidableEq α] (P : Program) (fs : List Field) (d : Kd α) (off n : Nat) : Prop :=
  ∀ (H : PH) (x y : α) (cs1 cs2 p1 p2 r1 r2 : List Value) (w : World) (m : Nat), n ≤ m → p1.length = off → p2.length = off → d.R H x cs1 → d.R H y cs2 →
    (Op.eqFields m (p1 ++ cs1 ++ r1).toArray (p2 ++ cs2 ++ r2).toArray fs).run P w = .ok (decide (x = y)) w
theorem EqOk.more {α : Type} [DecidableEq α] {P : Program} {t : TypeId} {d : Kd α} {n m : Nat} (h : EqOk P t d n) (e : n ≤ m) : EqOk P t d m := fun H x y cs1 cs2 w j hj => h H x y cs1 cs2 w j (Nat.le_trans e hj)
theorem EqOk.int {P : Program} {t : TypeId} {k k' : IntKind} (hu : P.underlying t = some (.int k')) : EqOk P t (Kd.int k) 1 := by
  intro H x y cs1 cs2 w m hm h1 h2
  obtain ⟨m, rfl⟩ : ∃ j, m = j + 1 := ⟨m - 1, by omega⟩
  have e1 : cs1 = [.int k x] := h1
  have e2 : cs2 = [.int k y] := h2
  subst e1; subst e2
  have := run_equalIn_int (P := P) w m t k k' x y hu
  rw [show (x == y) = decide (x = y) from rfl] at this
  exact this
theorem EqOk.u8 {P : Program} {t : TypeId} {k' : IntKind} (hu : P.underlying t = some (.int k')) : EqOk P t Kd.u8 1 := by
  intro H x y cs1 cs2 w m hm h1 h2
  have := EqOk.int (k := .u8) hu H (x.toNat : Int) (y.toNat : Int) cs1 cs2 w m hm h1 h2
  have e : (decide ((x.toNat : Int) = (y.toNat : Int))) = decide (x = y) := by
    apply decide_eq_decide.2
    exact ⟨fun h => UInt8.toNat_inj.1 (by omega), fun h => by rw [h]⟩
  rw [e] at this
  exact this
theorem EqOk.bool {P : Program} {t : TypeId} (hu : P.underlying t = some .bool) : EqOk P t Kd.bool 1 := by
  intro H x y cs1 cs2 w m hm h1 h2
  obtain ⟨m, rfl⟩ : ∃ j, m = j + 1 := ⟨m - 1, by omega⟩
  have e1 : cs1 = [.bool x] := h1
  have e2 : cs2 = [.bool y] := h2
  subst e1; subst e2
  have := eq_succ (d := m) P w t x y hu
  rw [show (x == y) = decide (x = y) by cases x <;> cases y <;> rfl] at this
  exact this
theorem EqOk.str {P : Program} {t : TypeId} (hu : P.underlying t = some .string) : EqOk P t Kd.str 1 := by
  intro H x y cs1 cs2 w m hm h1 h2
  obtain ⟨m, rfl⟩ : ∃ j, m = j + 1 := ⟨m - 1, by omega⟩
  have e1 : cs1 = [strV x] := h1
  have e2 : cs2 = [strV y] := h2
  subst e1; subst e2
  have hs : ∀ s : Str, (⟨s.toArray⟩ : ByteArray).toList = s := fun s => ByteArray.toList_mk s
  have := run_equalIn_string (P := P) w m t ⟨x.toArray⟩ ⟨y.toArray⟩ hu
  rw [hs, hs, show (x == y) = decide (x = y) by rw [Bool.eq_iff_iff]; simp] at this
  exact this
theorem run_part {α : Type} {P : Program} {t : TypeId} {d : Kd α} (ht : TyOk P t d) {H : PH} {x : α} {c p r : List Value} (hR : d.R H x c) (w : World) : (part t (p ++ c ++ r).toArray p.length).run P w = .ok (d.val c) w := by
  obtain ⟨ds, hu, hrow⟩ := ht.und
  have hlen := d.len hR
  unfold Kd.val part
  cases hg : d.agg with
  | true =>
    rw [hg] at hrow
    have hagg : (isAgg t).run P w = .ok true w := by
      unfold isAgg
      rw [Sem.run_bind, run_underlying hu w]
      cases ds <;> first | rfl | cases hrow
    have he : ((p ++ c ++ r).toArray.extract p.length (p.length + d.sz)) = c.toArray := by
      rw [← hlen]
      apply Array.ext'
      simp
    simp only [Sem.run_bind, hagg, Result.andThen_ok, if_true, run_sizeOf ht.size, Sem.run_pure, he]
  | false =>
    rw [hg] at hrow
    have hagg : (isAgg t).run P w = .ok false w := by
      unfold isAgg
      rw [Sem.run_bind, run_underlying hu w]
      cases ds <;> first | rfl | cases hrow
    rw [d.flat hg] at hlen
    match c, hlen with
    | [u], _ =>
      have he : (p ++ [u] ++ r).toArray[p.length]? = some u := by simp
      simp only [Sem.run_bind, hagg, Result.andThen_ok, Bool.false_eq_true, if_false, he, Sem.run_pure]
      rfl
theorem EqFs.one {α : Type} [DecidableEq α] {P : Program} {f : Field} {d : Kd α} {n off : Nat} (hn : (f.name == "_") = false) (ho : f.offset = off) (ht : TyOk P f.type d) (he : EqOk P f.type d n) : EqFs P [f] d off n := by
  intro H x y cs1 cs2 p1 p2 r1 r2 w m hm hp1 hp2 h1 h2
  have hn' : f.name ≠ "_" := by simpa using hn
  have a1 := run_part ht (p := p1) (r := r1) h1 w
  have a2 := run_part ht (p := p2) (r := r2) h2 w
  rw [hp1, ← ho] at a1
  rw [hp2, ← ho] at a2
  simp only [Op.eqFields, if_pos hn', Sem.run_bind, a1, a2, he H x y cs1 cs2 w m hm h1 h2, Result.andThen_ok]
  cases decide (x = y) <;> simp
theorem EqFs.cons {α β : Type} [DecidableEq α] [DecidableEq β] {P : Program} {f : Field} {fs : List Field} {d : Kd α} {d2 : Kd β} {n off : Nat} (hn : (f.name == "_") = false) (ho : f.offset = off) (ht : TyOk P f.type d) (he : EqOk P f.type d n) (hr : EqFs P fs d2 (off + d.sz) n) : EqFs P (f :: fs) (Kd.pair d d2) off n := by
  rintro H ⟨x, x2⟩ ⟨y, y2⟩ cs1 cs2 p1 p2 r1 r2 w m hm hp1 hp2 ⟨c1, c1', rfl, h1, h1'⟩ ⟨c2, c2', rfl, h2, h2'⟩
  have hn' : f.name ≠ "_" := by simpa using hn
  have a1 := run_part ht (p := p1) (r := c1' ++ r1) h1 w
  have a2 := run_part ht (p := p2) (r := c2' ++ r2) h2 w
  rw [hp1, ← ho, List.append_assoc, ← List.append_assoc c1] at a1
  rw [hp2, ← ho, List.append_assoc, ← List.append_assoc c2] at a2
  rw [← List.append_assoc] at a1 a2
  have hb := hr H x2 y2 c1' c2' (p1 ++ c1) (p2 ++ c2) r1 r2 w m hm (by rw [List.length_append, hp1, d.len h1]) (by rw [List.length_append, hp2, d.len h2]) h1' h2'
  simp only [List.append_assoc] at hb a1 a2 ⊢
  rw [Op.eqFields]
  simp only [if_pos hn', Sem.run_bind, a1, a2, he H x y c1 c2 w m hm h1 h2, Result.andThen_ok]
  by_cases e : x = y
  · subst e
    simp only [decide_true, Bool.not_true, Bool.false_eq_true, if_false]
    rw [hb]
    simp
  · have e' : decide (x = y) = false := by simpa using e
    simp [e', e]
theorem EqOk.struct {α β : Type} [DecidableEq α] [DecidableEq β] {P : Program} {t : TypeId} {fs : Array Field} {d : Kd β} {fi : α → β} {n : Nat} (hu : P.underlying t = some (.struct fs)) (hp : P.stoodInHeld t = false) (hagg : (Kd.iso d fi).agg = true) (hi : ∀ x y, fi x = fi y → x = y) (h : EqFs P fs.toList d 0 n) : EqOk P t (Kd.iso d fi) (n + 1) := by
  intro H x y cs1 cs2 w m hm h1 h2
  obtain ⟨m, rfl⟩ : ∃ j, m = j + 1 := ⟨m - 1, by omega⟩
  have hf : P.fieldsOf t = fs := by simp [Program.fieldsOf, hu]
  unfold Kd.val
  rw [hagg]
  simp only [if_true]
  rw [run_equalIn_struct (P := P) w m t cs1.toArray cs2.toArray (by rw [hf]; exact hu) hp, hf]
  have := h H (fi x) (fi y) cs1 cs2 [] [] [] [] w m (by omega) rfl rfl h1 h2
  have e : decide (fi x = fi y) = decide (x = y) := decide_eq_decide.2 ⟨hi x y, fun e => by rw [e]⟩
  rw [e] at this
  simpa using this
section
variable {C : Cx} {H : PH} {A : List (Nat × Value)} {Ls L : List Res} {k : List Item}
variable {ops : Array Oper} {i : Nat} {rest : List Nat} {d : Nat} {ty : TypeId} {ps : String} {af : Array Edge} {gd : Option (Nat × Bool)}
theorem G.eqA {α : Type} [DecidableEq α] {dk : Kd α} {x y : α} {p q : Operand} {t t' : TypeId} {cs1 cs2 : List Value} {n : Nat} (ho : ops[i]? = some { dst := some d, op := .binOp .eql t p q t', type := ty, pos := ps, after := af, guard := gd }) (hw : wantedA A ops gd = some true) (hn : Nat.blt d C.n = true)
    (hx : ev A p = some (.agg cs1.toArray)) (hy : ev A q = some (.agg cs2.toArray)) (hagg : dk.agg = true) (hg : C.P.eqGuardType C.P.depth t = false) (he : EqOk C.P t dk n) (hnn : Nat.ble n 10000 = true) (h1 : dk.R H x cs1) (h2 : dk.R H y cs2)
    (g : G C H ((d, .bool (decide (x = y))) :: A) Ls (.inRegion ops rest :: k)) : G C H A Ls (.inRegion ops (i :: rest) :: k) :=
  G.val ho hw rfl hn (fun a w ha _ => by
    have := he H x y cs1 cs2 w 10000 (Nat.le_of_ble_eq_true hnn) h1 h2
    unfold Kd.val at this
    rw [hagg] at this
    simp only [if_true] at this
    simp only [execOp, ha.eval hx, ha.eval hy, Sem.run_bind, run_eqGuard_agg (P := C.P) w _ t _ _ cs1.toArray cs2.toArray hg, Result.andThen_ok, run_eql_struct, this, Sem.run_pure]) g
theorem G.neqA {α : Type} [DecidableEq α] {dk : Kd α} {x y : α} {p q : Operand} {t t' : TypeId} {cs1 cs2 : List Value} {n : Nat} (ho : ops[i]? = some { dst := some d, op := .binOp .neq t p q t', type := ty, pos := ps, after := af, guard := gd }) (hw : wantedA A ops gd = some true) (hn : Nat.blt d C.n = true)
    (hx : ev A p = some (.agg cs1.toArray)) (hy : ev A q = some (.agg cs2.toArray)) (hagg : dk.agg = true) (hg : C.P.eqGuardType C.P.depth t = false) (he : EqOk C.P t dk n) (hnn : Nat.ble n 10000 = true) (h1 : dk.R H x cs1) (h2 : dk.R H y cs2)
    (g : G C H ((d, .bool (decide (x ≠ y))) :: A) Ls (.inRegion ops rest :: k)) : G C H A Ls (.inRegion ops (i :: rest) :: k) :=
  G.val ho hw rfl hn (fun a w ha _ => by
    have := he H x y cs1 cs2 w 10000 (Nat.le_of_ble_eq_true hnn) h1 h2
    unfold Kd.val at this
    rw [hagg] at this
    simp only [if_true] at this
    have e : (!decide (x = y)) = decide (x ≠ y) := by simp
    simp only [execOp, ha.eval hx, ha.eval hy, Sem.run_bind, run_eqGuard_agg (P := C.P) w _ t _ _ cs1.toArray cs2.toArray hg, Result.andThen_ok, run_neq_struct, this, Sem.run_pure, e]) g
end
end Go.Proofs.Ytpffemcpfddjbaa.K
