/- The judgement 'G': parts of one's own slices written at once: clear, copy (own text). -/
import Derived.Test.YtpffemcpfddjbaaMemD
namespace Go.Proofs.Ytpffemcpfddjbaa.K
open Go
/-- a part of a slice of one's own, stored anew -/
theorem OS.splice {α : Type} {P : Program} {w O : World} {H : PH} {L : List Res} {e : TypeId} {df : Kd α} {B : Option Addr} {c lo : Nat} {xs ys : List α} {cs : List Value} (s : St w O H (OS e df B c xs :: L)) (hrows : Rows df H ys cs)
    (hlo : lo + ys.length ≤ xs.length) (hne : ys ≠ []) : ∃ w' g, B = some ⟨g, 0, none⟩ ∧ (storeCells ⟨g, lo * df.sz, none⟩ cs).run P w = .ok () w' ∧ St w' O H (OS e df B c (xs.take lo ++ ys ++ xs.drop (lo + ys.length)) :: L) := by
  have hyl : 0 < ys.length := List.length_pos_iff.2 hne
  have hcl : cs.length = ys.length * df.sz := hrows.len
  have key : ∃ g, B = some ⟨g, 0, none⟩ := by
    obtain ⟨h, r, _⟩ := s.nth (j := 0) rfl
    obtain ⟨hl, ⟨rfl, _⟩ | ⟨g, sp, c0, rs, fz, rfl, _⟩⟩ := r
    · omega
    · exact ⟨g, rfl⟩
  obtain ⟨g, rfl⟩ := key
  obtain ⟨w', hrun, hst'⟩ := s.turnE (r' := OS e df (some ⟨g, 0, none⟩) c (xs.take lo ++ ys ++ xs.drop (lo + ys.length))) (Run := fun w' => (storeCells ⟨g, lo * df.sz, none⟩ cs).run P w = .ok () w') (by
    rintro h ⟨hl, ⟨rfl, rfl⟩ | ⟨g', sp, c0, rs, fz, hg, hr0, hcc, hf, rfl⟩⟩ hle
    · omega
    · obtain rfl : g = g' := by injection hg with hg; injection hg
      obtain ⟨c1, c2, rfl, hr1, hr2⟩ := hr0.split
      have e0 : xs = xs.take lo ++ ((xs.drop lo).take ys.length ++ xs.drop (lo + ys.length)) := by
        rw [← List.drop_drop, List.take_append_drop, List.take_append_drop]
      rw [e0] at hr1
      obtain ⟨p, q, rfl, hp, hq⟩ := hr1.split
      obtain ⟨m, z, rfl, hm, hz⟩ := hq.split
      have hpl : p.length = lo * df.sz := by rw [hp.len, List.length_take, Nat.min_eq_left (by omega)]
      have hml : m.length = cs.length := by rw [hm.len, hcl, List.length_take, List.length_drop, Nat.min_eq_left (by omega)]
      have hb0 := PH.le_one hle
      have hth : w.there g (lo * df.sz) cs.length := by
        have := there_of hb0 hf.at_ (p := p) (c := m) (r := z ++ c2 ++ rs) (by simp)
        rw [hpl, hml] at this
        exact this
      have hsto := run_storeCells_cells (P := P) g (lo * df.sz) cs 0 w (fun j hj => (hth j hj).1) (fun j hj => (hth j hj).2) hrows.one
      rw [Nat.add_zero] at hsto
      obtain ⟨e1, e2, e3, e4⟩ := ph_setCells g e fz (z ++ c2 ++ rs) cs m p w hml (by simpa using hb0)
      rw [hpl] at e1 e2 e3 e4
      refine ⟨w.setCells g (lo * df.sz) cs, PH.one g (.cells (p ++ cs ++ (z ++ c2 ++ rs)).toArray e fz), hsto, ⟨?_, .inr ⟨g, sp, p ++ cs ++ z ++ c2, rs, fz, rfl, Rows.append (Rows.append (Rows.append hp hrows) hz) hr2, ?_, hf.of ?_, ?_⟩⟩,
        fun b => by simp only [PH.one]; split <;> simp, PH.one_le (by rw [e1]; simp), fun b hb' => ?_, e2, e3, e4⟩
      · simp only [List.length_append, List.length_take, List.length_drop]; omega
      · simp only [List.length_append, List.length_take, List.length_drop] at hcc ⊢; omega
      · simp only [List.length_append]; omega
      · congr 2; simp
      · rw [e1]
        simp only [PH.one] at hb'
        split at hb'
        · cases hb'
        · rename_i hne'; simp [hne'])
  exact ⟨w', g, rfl, hrun, hst'⟩
/-- where a part of a slice of one's own begins, as a cut tells it -/
def cutA (A : Option Addr) (c lo sz : Nat) : Option Addr := if c = lo then A else A.map (·.add (lo * sz))
theorem cutA_some {g c lo sz : Nat} (h : lo < c) : cutA (some ⟨g, 0, none⟩) c lo sz = some ⟨g, lo * sz, none⟩ := by
  unfold cutA
  rw [if_neg (by omega), Option.map_some, add_eq rfl]
  simp
section
variable {C : Cx} {H : PH} {A : List (Nat × Value)} {Ls L M : List Res} {k : List Item}
variable {ops : Array Oper} {i : Nat} {rest : List Nat} {dst : Option Nat} {d : Nat} {ty : TypeId} {ps : String} {af : Array Edge} {gd : Option (Nat × Bool)}
/-- a cut of a slice of one's own that goes on being one's own: a view -/
theorem G.cutV {α : Type} {df : Kd α} {xs : List α} {x : Operand} {lo hi : Option Operand} {vl vh : Option Value} {t e : TypeId} {by_ c n r : Nat} {B : Option Addr} {l h : Int} (ho : ops[i]? = some { dst := some d, op := .slice t x lo hi none, type := ty, pos := ps, after := af, guard := gd }) (hw : wantedA A ops gd = some true) (hn : Nat.blt d C.n = true)
    (hx : ev A x = some (.slice B n c)) (h1 : opt A lo = some vl) (h2 : opt A hi = some vh) (hr : nthR Ls r = some (OS e df B c xs)) (hb : cutB n c vl vh none = some (l, h, (c : Int))) (hne : n = xs.length) (ht : ElOk C.P t e df by_) (hc : 0 ≤ l ∧ l ≤ h ∧ h ≤ xs.length)
    (g : G C H ((d, .slice (cutA B c l.toNat df.sz) (h.toNat - l.toNat) (c - l.toNat)) :: A) Ls (.inRegion ops rest :: k)) : G C H A Ls (.inRegion ops (i :: rest) :: k) := by
  subst hne
  refine G.val ho hw rfl hn (fun a w ha hs => ?_) g
  obtain ⟨hp, r', _⟩ := hs.nth hr
  have hlc : xs.length ≤ c := r'.1
  have e2 : lo.map a.eval = vl := ha.opt h1
  have e3 : hi.map a.eval = vh := ha.opt h2
  have hbs := run_sliceBounds (P := C.P) (b := true) hb hlc ⟨hc.1, hc.2.1, by omega, by omega⟩ (fun _ => rfl) w
  have hcc : ((c : Int)).toNat = c := by omega
  rw [hcc] at hbs
  simp only [execOp, Instr.sliceAt, Instr.slice, Sem.run_bind, run_underlying ht.und, Result.andThen_ok, ha.eval hx, e2, e3, Option.map_none, hbs, run_sizeOf ht.size, Sem.run_pure, cutA]
/-- clear of a part of a slice of one's own -/
theorem G.clearV {α : Type} {df : Kd α} {xs : List α} {z0 : α} {x : Operand} {t e : TypeId} {by_ c lo n : Nat} {B : Option Addr} {z : Value} {cz : List Value} {cc : Nat} (ho : ops[i]? = some { dst := dst, op := .call { callee := .builtin .clear, args := #[x], argTypes := #[t] }, type := ty, pos := ps, after := af, guard := gd }) (hw : wantedA A ops gd = some true) (hn : dOk C.n dst = true)
    (hx : ev A x = some (.slice (cutA B c lo df.sz) n cc)) (ht : ElOk C.P t e df by_) (hz : (C.P.info? e).bind (·.zero) = some z) (hzc : z.cells = cz.toArray) (hR : df.R H z0 cz) (hc : lo + n ≤ xs.length)
    (g : G C H (putA dst (.tuple #[]) A) (OS e df B c (xs.take lo ++ List.replicate n z0 ++ xs.drop (lo + n)) :: L) (.inRegion ops rest :: k)) : G C H A (OS e df B c xs :: L) (.inRegion ops (i :: rest) :: k) := by
  intro a w ha hs
  have hexec : ∀ r, (Builtin.clear_ #[t] ty #[.slice (cutA B c lo df.sz) n cc]).run C.P w = r → (execOp a.eval { dst := dst, op := .call { callee := .builtin .clear, args := #[x], argTypes := #[t] }, type := ty, pos := ps, after := af, guard := gd }).run C.P w = r.andThen fun v w' => .ok (.value v) w' := by
    intro r hr
    simp [execOp, resolve, invoke, builtin, ha.eval hx, hr]
  have fin : ∀ w', (Builtin.clear_ #[t] ty #[.slice (cutA B c lo df.sz) n cc]).run C.P w = .ok (.tuple #[]) w' → St w' C.O H (OS e df B c (xs.take lo ++ List.replicate n z0 ++ xs.drop (lo + n)) :: L) → Goes C.P C.f C.R C.m (.inRegion ops (i :: rest) :: k) a w := by
    intro w' hr hst
    refine Goes.opV ho (wanted_of ha hw) (by rw [hexec _ hr]; rfl) ?_
    show Goes C.P C.f C.R C.m (.inRegion ops rest :: k) (a.put dst (.tuple #[])) w'
    exact g _ w' (ha.putD hn _) hst
  by_cases h0 : n = 0
  · subst h0
    refine fin w ?_ (by simpa using hs)
    cases hA : cutA B c lo df.sz with
    | none => simp [Builtin.clear_, run_underlying ht.und]
    | some a' => simp [Builtin.clear_, run_underlying ht.und]
  · have hq : ∃ ii, C.P.info? e = some ii := by
      have := ht.info
      cases hq : C.P.info? e with
      | none => simp [hq] at this
      | some ii => exact ⟨ii, rfl⟩
    obtain ⟨ii, hq⟩ := hq
    have hzz : ii.zero = some z := by rw [hq] at hz; exact hz
    have hzv : ∀ w, (zeroValue e).run C.P w = .ok z w := fun w => by simp [zeroValue, typeInfo, hq, hzz]
    obtain ⟨w', g', rfl, hrun, hst⟩ := OS.splice (P := C.P) (lo := lo) (ys := List.replicate n z0) (cs := List.flatten (List.replicate n cz)) hs (Rows.replicate hR n) (by simpa using hc) (by simpa using h0)
    have hlc : xs.length ≤ c := by obtain ⟨h, r, _⟩ := hs.nth (j := 0) rfl; exact r.1
    refine fin w' ?_ (by simpa using hst)
    rw [cutA_some (by omega)]
    obtain ⟨m, rfl⟩ : ∃ m, n = m + 1 := ⟨n - 1, by omega⟩
    simp [Builtin.clear_, run_underlying ht.und, hzv, hzc, zeroCells_eq cz (m + 1) df.sz (df.len hR), hrun]
/-- copy into a part of a slice of one's own -/
theorem G.copyV {α : Type} {df : Kd α} {xs ys : List α} {x y : Operand} {t t' e : TypeId} {by_ c lo n : Nat} {B : Option Addr} {vy : Value} {cc : Nat} (ho : ops[i]? = some { dst := dst, op := .call { callee := .builtin .copy, args := #[x, y], argTypes := #[t, t'] }, type := ty, pos := ps, after := af, guard := gd }) (hw : wantedA A ops gd = some true) (hn : dOk C.n dst = true)
    (hx : ev A x = some (.slice (cutA B c lo df.sz) n cc)) (hy : ev A y = some vy) (ht : ElOk C.P t e df by_) (hc : lo + n ≤ xs.length) (hsrc : ∀ w, St w C.O H (OS e df B c xs :: L) → (Builtin.lenOf vy).run C.P w = .ok ys.length w ∧ ∃ cs, Rows df H (ys.take n) cs ∧ (Builtin.firstCells df.sz (min ys.length n) vy).run C.P w = .ok cs.toArray w)
    (g : G C H (putA dst (.int .i64 (min ys.length n : Nat)) A) (OS e df B c (xs.take lo ++ ys.take n ++ xs.drop (lo + min ys.length n)) :: L) (.inRegion ops rest :: k)) : G C H A (OS e df B c xs :: L) (.inRegion ops (i :: rest) :: k) := by
  intro a w ha hs
  obtain ⟨hlen, cs, hrows, hfirst⟩ := hsrc w hs
  have hexec : ∀ r, (Builtin.copy_ #[t, t'] ty #[.slice (cutA B c lo df.sz) n cc, vy]).run C.P w = r → (execOp a.eval { dst := dst, op := .call { callee := .builtin .copy, args := #[x, y], argTypes := #[t, t'] }, type := ty, pos := ps, after := af, guard := gd }).run C.P w = r.andThen fun v w' => .ok (.value v) w' := by
    intro r hr
    simp [execOp, resolve, invoke, builtin, ha.eval hx, ha.eval hy, hr]
  have htl : (ys.take n).length = min ys.length n := by rw [List.length_take, Nat.min_comm]
  have fin : ∀ w', (Builtin.copy_ #[t, t'] ty #[.slice (cutA B c lo df.sz) n cc, vy]).run C.P w = .ok (.int .i64 (min ys.length n : Nat)) w' → St w' C.O H (OS e df B c (xs.take lo ++ ys.take n ++ xs.drop (lo + min ys.length n)) :: L) → Goes C.P C.f C.R C.m (.inRegion ops (i :: rest) :: k) a w := by
    intro w' hr hst
    refine Goes.opV ho (wanted_of ha hw) (by rw [hexec _ hr]; rfl) ?_
    show Goes C.P C.f C.R C.m (.inRegion ops rest :: k) (a.put dst _) w'
    exact g _ w' (ha.putD hn _) hst
  have hsz : (sizeOf e).run C.P w = .ok df.sz w := run_sizeOf ht.size w
  by_cases h0 : ys.take n = []
  · have hm : min ys.length n = 0 := by rw [← htl, h0]; rfl
    have hcs : cs = [] := by rw [h0] at hrows; exact hrows
    subst hcs
    rw [hm] at hfirst
    refine fin w ?_ (by rw [h0, hm]; simpa using hs)
    cases hA : cutA B c lo df.sz with
    | none => simp [Builtin.copy_, run_underlying ht.und, hlen, hsz, hfirst, hm, goInt]
    | some a' => simp [Builtin.copy_, run_underlying ht.und, hlen, hsz, hfirst, hm, goInt, storeCells]
  · obtain ⟨w', g', rfl, hrun, hst⟩ := OS.splice (P := C.P) (lo := lo) (ys := ys.take n) (cs := cs) hs hrows (by rw [htl]; omega) h0
    have hlc : xs.length ≤ c := by obtain ⟨h, r, _⟩ := hs.nth (j := 0) rfl; exact r.1
    have hpos : 0 < min ys.length n := by rw [← htl]; exact List.length_pos_iff.2 h0
    rw [htl] at hst
    refine fin w' ?_ hst
    rw [cutA_some (by omega)]
    simp [Builtin.copy_, run_underlying ht.und, hlen, hsz, hfirst, hrun, goInt]
end
end Go.Proofs.Ytpffemcpfddjbaa.K
