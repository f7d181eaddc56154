/- The judgement 'G': scopes, labels; min and max (own text). -/
import Derived.Test.YtpffemcpfddjbaaMemE
import Derived.Scope
namespace Go.Proofs.Ytpffemcpfddjbaa.K
open Go
def notI8 : IntKind → Bool
  | .i8 => false
  | _ => true
theorem wr_u8 {k : IntKind} (h : notI8 k = true) (b : UInt8) : wr k (b.toNat : Int) = (b.toNat : Int) := by
  have := b.toNat_lt
  cases k <;> first | (cases h; done) | (show wi64 _ = _; unfold wi64; omega) | (show wi32 _ = _; unfold wi32; omega) | (show wi16 _ = _; unfold wi16; omega) | (show wu64 _ = _; unfold wu64; omega) | (show wu32 _ = _; unfold wu32; omega) | (show wu16 _ = _; unfold wu16; omega) | (show wu8 _ = _; unfold wu8; omega)
section
variable {P : Program} {f : FuncId} {R : Ending → World → Prop} {m : Mk} {k : List Item} {a : Act} {w : World}
theorem stepR_scope' {b : Frame} {cs : List Frame} {c : Code} : step P (lone (b.atR a (.code (.scope c) :: k)) cs w) = .next (lone (b.atR a (.code c :: .inScope c :: k)) cs w) :=
  step_lone_go (by simp [stepG, stepG.exec, Frame.atR])
theorem stepR_inScope' {b : Frame} {cs : List Frame} {c : Code} : step P (lone (b.atR a (.inScope c :: k)) cs w) = .next (lone (b.atR a k) cs w) :=
  step_lone_go (by simp [stepG, stepG.exec, Frame.atR])
theorem Goes.scope {c : Code} (g : Goes P f R m (.code c :: .inScope c :: k) a w) : Goes P f R m (.code (.scope c) :: k) a w := g.of_step fun _ _ => stepR_scope'
theorem Goes.inScope {c : Code} (g : Goes P f R m k a w) : Goes P f R m (.inScope c :: k) a w := g.of_step fun _ _ => stepR_inScope'
theorem Goes.label {l : Nat} (g : Goes P f R m k a w) : Goes P f R m (.code (.label l) :: k) a w := g.of_step fun _ _ => stepR_label
end
section
variable {C : Cx} {H : PH} {A : List (Nat × Value)} {Ls L M : List Res} {k : List Item}
variable {ops : Array Oper} {i : Nat} {rest : List Nat} {dst : Option Nat} {d : Nat} {ty : TypeId} {ps : String} {af : Array Edge} {gd : Option (Nat × Bool)}
theorem G.scope {c : Code} (g : G C H A Ls (.code c :: .inScope c :: k)) : G C H A Ls (.code (.scope c) :: k) := fun a w ha hs => (g a w ha hs).scope
theorem G.inScope {c : Code} (g : G C H A Ls k) : G C H A Ls (.inScope c :: k) := fun a w ha hs => (g a w ha hs).inScope
theorem G.label {l : Nat} (g : G C H A Ls k) : G C H A Ls (.code (.label l) :: k) := fun a w ha hs => (g a w ha hs).label
theorem G.min2 {x y : Operand} {t t' : TypeId} {kd : IntKind} {m n : Int} (ho : ops[i]? = some { dst := some d, op := .call { callee := .builtin .min, args := #[x, y], argTypes := #[t, t'] }, type := ty, pos := ps, after := af, guard := gd }) (hw : wantedA A ops gd = some true) (hn : Nat.blt d C.n = true)
    (hx : ev A x = some (.int kd m)) (hy : ev A y = some (.int kd n))
    (g : G C H ((d, .int kd (min m n)) :: A) Ls (.inRegion ops rest :: k)) : G C H A Ls (.inRegion ops (i :: rest) :: k) :=
  G.val ho hw rfl hn (fun a w ha _ => by
    have e : (if n < m then n else m) = min m n := by simp only [Int.min_def]; split <;> split <;> omega
    simp [execOp, resolve, invoke, builtin, ha.eval hx, ha.eval hy, Builtin.min_, Builtin.min2, e]) g
theorem G.max2 {x y : Operand} {t t' : TypeId} {kd : IntKind} {m n : Int} (ho : ops[i]? = some { dst := some d, op := .call { callee := .builtin .max, args := #[x, y], argTypes := #[t, t'] }, type := ty, pos := ps, after := af, guard := gd }) (hw : wantedA A ops gd = some true) (hn : Nat.blt d C.n = true)
    (hx : ev A x = some (.int kd m)) (hy : ev A y = some (.int kd n))
    (g : G C H ((d, .int kd (max m n)) :: A) Ls (.inRegion ops rest :: k)) : G C H A Ls (.inRegion ops (i :: rest) :: k) :=
  G.val ho hw rfl hn (fun a w ha _ => by
    have e : (if m < n then n else m) = max m n := by simp only [Int.max_def]; split <;> split <;> omega
    simp [execOp, resolve, invoke, builtin, ha.eval hx, ha.eval hy, Builtin.max_, Builtin.max2, e]) g
end
end Go.Proofs.Ytpffemcpfddjbaa.K
