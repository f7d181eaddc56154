/- The judgement 'G': literals of slices, whatever their elements (own text). -/
import Derived.Test.YtpffemcpfddjbaaMemC
namespace Go.Proofs.Ytpffemcpfddjbaa.K
open Go
/-- the i-th of a slice of one's own, told by getD -/
theorem Rd.osG {α β : Type} {d : Kd α} {df : Kd β} {off : Nat} {get : α → β} {set : α → β → α} {xs : List α} {i : Nat} {z : α} (hi : i < xs.length) (l : Lens d off df get set (xs.getD i z)) {w O : World} {H : PH} {L : List Res} {j c : Nat} {A : Option Addr} {t : TypeId}
    (s : St w O H L) (e : nthR L j = some (OS t d A c xs)) {o : Nat} (ho : o = i * d.sz + off) : Rd w H df (plc A o) (get (xs.getD i z)) := by
  have e1 : xs.getD i z = xs[i] := by simp [List.getD, hi]
  rw [e1] at l ⊢
  exact Rd.os (hi := hi) l s e ho
def partsOf : Nat → List Value → List (Nat × Value)
  | _, [] => []
  | i, v :: r => (i, v) :: partsOf (i + 1) r
/-- values that read as data, one by one -/
def VRs {α : Type} (d : Kd α) (H : PH) : List α → List Value → Prop
  | [], [] => True
  | x :: xs, v :: vs => VR d H x v ∧ VRs d H xs vs
  | _, _ => False
theorem fill_all {α : Type} {d : Kd α} {H : PH} : ∀ {xs : List α} {vs : List Value} {i : Nat} {p c : List Value}, VRs d H xs vs → p.length = i * d.sz → c.length = vs.length * d.sz →
    ∃ cs, Instr.fill (fun i => some (i * d.sz, d.sz)) (p ++ c).toArray (partsOf i vs) = some (p ++ cs).toArray ∧ Rows d H xs cs
  | [], [], i, p, c, _, hp, hc => by
    have : c = [] := List.eq_nil_of_length_eq_zero (by simpa using hc)
    subst this
    exact ⟨[], rfl, rfl⟩
  | x :: xs, v :: vs, i, p, c, ⟨⟨c1, hR, hv⟩, hr⟩, hp, hc => by
    have hl := d.len hR
    have hc' : c.length = d.sz + vs.length * d.sz := by rw [hc, List.length_cons, Nat.succ_mul, Nat.add_comm]
    obtain ⟨cs, e, hrows⟩ := fill_all (p := p ++ c1) (c := c.drop d.sz) (i := i + 1) hr (by rw [List.length_append, hp, hl, Nat.succ_mul]) (by rw [List.length_drop, hc']; omega)
    refine ⟨c1 ++ cs, ?_, c1, cs, rfl, hR, hrows⟩
    have := fill_step (place := fun i => some (i * d.sz, d.sz)) (j := i) (v := v) (cs := c1) (p := p) (c := c.take d.sz) (r := c.drop d.sz) (pvs := partsOf (i + 1) vs) rfl hv hl (by rw [List.length_take, hc']; omega) hp
    rw [List.append_assoc, List.take_append_drop] at this
    rw [partsOf, this, e, List.append_assoc]
  | [], _ :: _, _, _, _, h, _, _ => h.elim
  | _ :: _, [], _, _, _, h, _, _ => h.elim
theorem VRs.len {α : Type} {d : Kd α} {H : PH} : ∀ {xs : List α} {vs : List Value}, VRs d H xs vs → xs.length = vs.length
  | [], [], _ => rfl
  | _ :: xs, _ :: vs, h => by simp [VRs.len h.2]
  | [], _ :: _, h => h.elim
  | _ :: _, [], h => h.elim
section
variable {C : Cx} {H : PH} {A : List (Nat × Value)} {Ls L M : List Res} {k : List Item}
variable {ops : Array Oper} {i : Nat} {rest : List Nat} {dst : Option Nat} {d : Nat} {ty : TypeId} {ps : String} {af : Array Edge} {gd : Option (Nat × Bool)}
theorem G.buildSliceV {α : Type} {df : Kd α} {xs : List α} {z0 : α} {t e : TypeId} {m by_ : Nat} {parts : Array (Nat × Operand)} {vs : List Value} {z : Value} {cz : List Value} (ho : ops[i]? = some { dst := some d, op := .buildSlice t m parts, type := ty, pos := ps, after := af, guard := gd }) (hw : wantedA A ops gd = some true) (hn : Nat.blt d C.n = true)
    (ht : ElOk C.P t e df by_) (hz : (C.P.info? e).bind (·.zero) = some z) (hp : evPs A parts.toList = some (partsOf 0 vs)) (hm : vs.length = m) (hsm : Nat.ble (m * df.sz) 16777216 = true) (hm0 : (m * df.sz == 0) = false)
    (hzc : z.cells = cz.toArray) (hzl : df.R H z0 cz) (hR : VRs df H xs vs)
    (gg : ∀ B, G C H ((d, .slice B xs.length m) :: A) (OS e df B m xs :: Ls) (.inRegion ops rest :: k)) : G C H A Ls (.inRegion ops (i :: rest) :: k) := by
  have hzl' := df.len hzl
  obtain ⟨cs, e1, hrows⟩ := fill_all (p := []) (c := List.flatten (List.replicate m cz)) (i := 0) hR (by simp) (by rw [hm]; simp [hzl'])
  exact G.buildSlice ho hw hn ht hz hp (hR.len.trans hm) hsm hm0 hzc hzl' (by simpa using e1) hrows gg
end
end Go.Proofs.Ytpffemcpfddjbaa.K
