/- The judgement 'G': small further rules (own text). -/
import Derived.Test.YtpffemcpfddjbaaMem5
namespace Go.Proofs.Ytpffemcpfddjbaa.K
open Go
section
variable {C : Cx} {H : PH} {A : List (Nat × Value)} {Ls L : List Res} {k : List Item}
variable {ops : Array Oper} {i : Nat} {rest : List Nat} {d : Nat} {ty : TypeId} {ps : String} {af : Array Edge} {gd : Option (Nat × Bool)}
theorem ph_freeze2 (w : World) (g : Nat) (cells : Array Value) (t : TypeId) (fz : Nat × Nat) (hb : ph w g = some (.cells cells t fz)) (o : Nat) :
    ph (w.freeze ⟨g, o, none⟩ 1) = (fun x => if x = g then some (.cells cells t (if fz.1 = fz.2 then (o, o + 1) else (min fz.1 o, max fz.2 (o + 1)))) else ph w x) := by
  have hb' : w.heap[g]? = some (.cells cells t fz) := hb
  obtain ⟨lo, hi⟩ := fz
  funext x
  by_cases hx : x = g
  · subst hx
    simp [World.freeze, ph, Array.getElem?_modify, hb']
  · have hx' : ¬ g = x := fun e => hx e.symm
    simp [World.freeze, ph, Array.getElem?_modify, hx, hx']
/-- []byte("a constant"): the slice is marked, and stays what it is -/
theorem G.markO {x : Operand} {t e : TypeId} {B : Option Addr} {m c : Nat} {xs : List UInt8} (ho : ops[i]? = some { dst := some d, op := .convert t t x, type := ty, pos := ps, after := af, guard := gd }) (hw : wantedA A ops gd = some true) (hn : Nat.blt d C.n = true)
    (hx : ev A x = some (.slice B m c)) (ht : C.P.underlying t = some (.slice e)) (he : C.P.underlying e = some (.int .u8)) (hpos : 0 < c)
    (g : G C H ((d, .slice B m c) :: A) (OS e Kd.u8 B c xs :: L) (.inRegion ops rest :: k)) : G C H A (OS e Kd.u8 B c xs :: L) (.inRegion ops (i :: rest) :: k) :=
  G.valW ho hw rfl hn fun a w ha hs => by
    obtain ⟨w3, ⟨b, n, hB, hsh, hw3⟩, hst3⟩ := hs.turnE (r' := OS e Kd.u8 B c xs) (Run := fun w3 => ∃ b n, B = some ⟨b, 0, none⟩ ∧ w.shape? b = some (e, n) ∧ w3 = w.freeze ⟨b, n, none⟩ 1) (by
      rintro h ⟨hl, ⟨h2, _⟩ | ⟨b, sp, cs, rs, fz, rfl, hr, hcc, hf, rfl⟩⟩ hle
      · omega
      · have hb0 := PH.le_one hle
        have hfr := ph_freeze2 w b (cs ++ rs).toArray e fz hb0 (cs ++ rs).length
        refine ⟨_, PH.one b (.cells (cs ++ rs).toArray e _), ⟨b, (cs ++ rs).length, rfl, ?_, rfl⟩, ⟨hl, .inr ⟨b, sp, cs, rs, _, rfl, hr, hcc, hf.mark, rfl⟩⟩, fun x => by simp only [PH.one]; split <;> simp, PH.one_le (by rw [hfr]; simp), fun x hx' => ?_, rfl, rfl, rfl⟩
        · have hb' : w.heap[b]? = some (.cells (cs ++ rs).toArray e fz) := hb0
          simp [World.shape?, hb']
        · rw [hfr]
          simp only [PH.one] at hx'
          split at hx'
          · cases hx'
          · rename_i hne; simp [hne])
    subst hB
    refine ⟨.slice (some ⟨b, 0, none⟩) m c, w3, H, _, ?_, hst3, g⟩
    subst hw3
    simp [execOp, ha.eval hx, convert, run_underlying ht, run_underlying he, markStringish, hsh]
theorem eq_succ {d : Nat} (P : Program) (w : World) (t : TypeId) (a b : Bool) (ht : P.underlying t = some .bool) : (Op.equalIn (d + 1) t (.bool a) (.bool b)).run P w = .ok (a == b) w := by
  unfold Op.equalIn
  simp [run_underlying ht]
theorem run_eqB (P : Program) (w : World) (t : TypeId) (a b : Bool) (ht : P.underlying t = some .bool) : (Op.equal t (.bool a) (.bool b)).run P w = .ok (a == b) w := eq_succ P w t a b ht
theorem G.cmpB {x y : Operand} {t t' : TypeId} {a b r : Bool} (ho : ops[i]? = some { dst := some d, op := .binOp .eql t x y t', type := ty, pos := ps, after := af, guard := gd }) (hw : wantedA A ops gd = some true) (hn : Nat.blt d C.n = true)
    (hx : ev A x = some (.bool a)) (hy : ev A y = some (.bool b)) (ht : C.P.underlying t = some .bool) (hr : (a == b) = r)
    (g : G C H ((d, .bool r) :: A) Ls (.inRegion ops rest :: k)) : G C H A Ls (.inRegion ops (i :: rest) :: k) :=
  G.val ho hw rfl hn (fun a w ha _ => by
    subst hr
    simp [execOp, ha.eval hx, ha.eval hy, Sem.run_bind, eqGuard, binOp, run_eqB _ _ _ _ _ ht, bne]) g
theorem G.cmpBn {x y : Operand} {t t' : TypeId} {a b r : Bool} (ho : ops[i]? = some { dst := some d, op := .binOp .neq t x y t', type := ty, pos := ps, after := af, guard := gd }) (hw : wantedA A ops gd = some true) (hn : Nat.blt d C.n = true)
    (hx : ev A x = some (.bool a)) (hy : ev A y = some (.bool b)) (ht : C.P.underlying t = some .bool) (hr : (a != b) = r)
    (g : G C H ((d, .bool r) :: A) Ls (.inRegion ops rest :: k)) : G C H A Ls (.inRegion ops (i :: rest) :: k) :=
  G.val ho hw rfl hn (fun a w ha _ => by
    subst hr
    simp [execOp, ha.eval hx, ha.eval hy, Sem.run_bind, eqGuard, binOp, run_eqB _ _ _ _ _ ht, bne]) g
end
end Go.Proofs.Ytpffemcpfddjbaa.K
