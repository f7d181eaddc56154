/- The judgement 'G': append of so many zeros (own text). -/
import Derived.Test.YtpffemcpfddjbaaMemA
namespace Go.Proofs.Ytpffemcpfddjbaa.K
open Go
section
variable {C : Cx} {H : PH} {A : List (Nat × Value)} {Ls L : List Res} {k : List Item}
variable {ops : Array Oper} {i : Nat} {rest : List Nat} {d : Nat} {ty : TypeId} {ps : String} {af : Array Edge} {gd : Option (Nat × Bool)}
theorem G.appendN {α : Type} {df : Kd α} {xs : List α} {kd : IntKind} {n0 : Int} {z0 : α} {t t' e : TypeId} {by_ c n : Nat} {B : Option Addr} {s x : Operand} {dx : IntKind} {z : Value} {cz : List Value}
    (ho : ops[i]? = some { dst := some d, op := .call { callee := .builtin .append, args := #[s, x], argTypes := #[t, t'] }, type := ty, pos := ps, after := af, guard := gd }) (hw : wantedA A ops gd = some true) (hn : Nat.blt d C.n = true)
    (hs : ev A s = some (.slice B n c)) (hn' : n = xs.length) (hx : ev A x = some (.int kd n0)) (ht : ElOk C.P t e df by_) (hxt : C.P.underlying t' = some (.int dx)) (hn0 : 0 ≤ n0)
    (hz : (C.P.info? e).bind (·.zero) = some z) (hzc : z.cells = cz.toArray) (hR : df.R H z0 cz)
    (hb : (xs.length + n0.toNat) * by_ ≤ 140737488355328 ∧ xs.length + n0.toNat ≤ 140737488355328)
    (gg : ∀ B' c', G C H ((d, .slice B' (xs ++ List.replicate n0.toNat z0).length c') :: A) (OS e df B' c' (xs ++ List.replicate n0.toNat z0) :: L) (.inRegion ops rest :: k)) : G C H A (OS e df B c xs :: L) (.inRegion ops (i :: rest) :: k) := by
  subst hn'
  refine G.valW ho hw rfl hn fun a w ha hst => ?_
  have hwr : IntKind.wrap .i64 n0 = n0 := by rw [wrap_wr]; show wi64 n0 = n0; unfold wi64; omega
  have hq : ∃ ii, C.P.info? e = some ii ∧ ii.size = df.sz ∧ ii.bytes = by_ := by
    have := ht.info
    cases hq : C.P.info? e with
    | none => simp [hq] at this
    | some ii => simp [hq] at this; exact ⟨ii, rfl, this.1, this.2⟩
  obtain ⟨ii, hq, hs1, hs2⟩ := hq
  have hzz : ii.zero = some z := by rw [hq] at hz; exact hz
  have hexec : ∀ r, (Builtin.append_ #[t, t'] ty #[.slice B xs.length c, (.int kd n0)]).run C.P w = r → (execOp a.eval { dst := some d, op := .call { callee := .builtin .append, args := #[s, x], argTypes := #[t, t'] }, type := ty, pos := ps, after := af, guard := gd }).run C.P w = r.andThen fun v w' => .ok (.value v) w' := by
    intro r hr
    simp [execOp, resolve, invoke, builtin, ha.eval hs, ha.eval hx, hr]
  have hmul : xs.length * df.sz + n0.toNat * df.sz = (xs.length + n0.toNat) * df.sz := (Nat.add_mul _ _ _).symm
  let cs : List Value := List.flatten (List.replicate n0.toNat cz)
  have hrows : Rows df H (List.replicate n0.toNat z0) cs := Rows.replicate hR _
  have hcl : cs.length = n0.toNat * df.sz := by have := hrows.len; rwa [List.length_replicate] at this
  have hlr : (List.replicate n0.toNat z0).length = n0.toNat := List.length_replicate
  have hzv : ∀ w, (zeroValue e).run C.P w = .ok z w := fun w => by simp [zeroValue, typeInfo, hq, hzz]
  have hti : ∀ w, (typeInfo e).run C.P w = .ok ii w := fun w => by simp [typeInfo, hq]
  have hneg : ¬ (n0 < 0) := by omega
  have h48a : ¬ (281474976710656 < n0 * (ii.bytes : Int)) := by
    have h1 : n0 = (n0.toNat : Int) := by omega
    have h2 : n0.toNat * by_ ≤ (xs.length + n0.toNat) * by_ := Nat.mul_le_mul_right _ (by omega)
    have h3 : (n0 * (by_ : Int)) = ((n0.toNat * by_ : Nat) : Int) := by rw [Int.natCast_mul, ← h1]
    rw [hs2, h3]
    omega
  have happ : ∀ w, (if n0.toNat * df.sz = 0 then (pure #[] : Sem (Array Value)) else do pure (Builtin.zeroCells (← zeroValue e).cells n0.toNat)).run C.P w = .ok cs.toArray w := by
    intro w
    by_cases hz : n0.toNat * df.sz = 0
    · rw [if_pos hz]
      have : cs = [] := List.eq_nil_of_length_eq_zero (by omega)
      rw [this]; rfl
    · rw [if_neg hz]
      simp only [Sem.run_bind, hzv, Result.andThen_ok, Sem.run_pure, hzc, zeroCells_eq cz _ df.sz (df.len hR)]
      rfl
  by_cases hfit : xs.length + n0.toNat ≤ c
  · -- it fits
    obtain ⟨w', hrun, hst'⟩ := hst.turnE (r' := OS e df B c (xs ++ List.replicate n0.toNat z0)) (Run := fun w' => (Builtin.append_ #[t, t'] ty #[.slice B xs.length c, (.int kd n0)]).run C.P w = .ok (.slice B (xs.length + n0.toNat) c) w') (by
      rintro h ⟨hl, ⟨rfl, rfl⟩ | ⟨g, sp, c0, rs, fz, rfl, hr0, hcc, hf, rfl⟩⟩ hle
      · have hx0 : xs = [] := List.eq_nil_of_length_eq_zero (by omega)
        subst hx0
        have hn1 : n0 = 0 := by simp at hfit; omega
        subst hn1
        refine ⟨w, PH.emp, ?_, ⟨by simp, .inl ⟨rfl, rfl⟩⟩, fun _ => Iff.rfl, PH.emp_le _, fun _ _ => rfl, rfl, rfl, rfl⟩
        have happ0 := happ w
        have hcs0 : cs = [] := List.eq_nil_of_length_eq_zero (by rw [hcl]; simp)
        cases B <;> simp [Builtin.append_, run_underlying ht.und, run_underlying hxt, run_sizeOf ht.size, asInt, asIntOf, hwr, hti, hzv, storeCells]
      · obtain ⟨c1, c2, rfl, hr1, hr2⟩ := hr0.split
        simp only [List.length_append] at hcc
        have esp : sp = sp.take n0.toNat ++ sp.drop n0.toNat := (List.take_append_drop _ _).symm
        rw [esp] at hr2
        obtain ⟨m, q, rfl, hm, hq2⟩ := hr2.split
        have hml : m.length = cs.length := by rw [hm.len, hcl, List.length_take, Nat.min_eq_left (by omega)]
        have hb0 := PH.le_one hle
        have hc1 : c1.length = xs.length * df.sz := hr1.len
        have hth : w.there g (xs.length * df.sz) cs.length := by
          have := there_of hb0 hf.at_ (p := c1) (c := m) (r := q ++ rs) (by simp)
          rw [hc1, hml] at this
          exact this
        have hadd : (⟨g, 0, none⟩ : Addr).add (xs.length * df.sz) = ⟨g, xs.length * df.sz, none⟩ := by rw [add_eq rfl]; simp
        have hsto := run_storeCells_cells (P := C.P) g (xs.length * df.sz) cs 0 w (fun j hj => (hth j hj).1) (fun j hj => (hth j hj).2) hrows.one
        rw [Nat.add_zero] at hsto
        obtain ⟨e1, e2, e3, e4⟩ := ph_setCells g e fz (q ++ rs) cs m c1 w hml (by simpa using hb0)
        rw [hc1] at e1 e2 e3 e4
        refine ⟨w.setCells g (xs.length * df.sz) cs, PH.one g (.cells (c1 ++ cs ++ (q ++ rs)).toArray e fz), ?_, ⟨by rw [List.length_append, hlr]; exact hfit, .inr ⟨g, sp.drop n0.toNat, c1 ++ cs ++ q, rs, fz, rfl, Rows.append (Rows.append hr1 hrows) hq2, by simp only [List.length_append, List.length_drop]; omega, hf.of (by simp only [List.length_append]; omega), by simp⟩⟩,
          fun b => by simp only [PH.one]; split <;> simp, PH.one_le (by rw [e1]; simp), fun b hb' => ?_, e2, e3, e4⟩
        · simp [Builtin.append_, run_underlying ht.und, run_underlying hxt, run_sizeOf ht.size, asInt, asIntOf, hwr, hneg, h48a, hti, hfit, hadd, hsto]
          split
          · rename_i hz
            have hc0 : cs = [] := List.eq_nil_of_length_eq_zero (by omega)
            rw [hc0] at hsto ⊢
            rw [hsto]
            rfl
          · simp only [hzv, Result.andThen_ok, hzc, zeroCells_eq cz _ df.sz (df.len hR), List.toList_toArray]
            show (Sem.run _ (storeCells _ cs) w).andThen _ = _
            rw [hsto]
            rfl
        · rw [e1]
          simp only [PH.one] at hb'
          split at hb'
          · cases hb'
          · rename_i hne; simp [hne])
    refine ⟨_, w', H, _, by rw [hexec _ hrun]; rfl, hst', ?_⟩
    have := gg B c
    rw [List.length_append, hlr] at this
    exact this
  · -- a new block
    have hcap := nextcap_le (need := xs.length + n0.toNat) (old := c) (by omega)
    have hcap2 : Builtin.nextslicecap (xs.length + n0.toNat) c * by_ ≤ 281474976710656 :=
      Nat.le_trans (Nat.mul_le_mul_right by_ hcap) (by rw [Nat.mul_assoc]; omega)
    obtain ⟨nc, hnc, hch⟩ : ∃ nc, xs.length + n0.toNat ≤ nc ∧ (choose (.appendCap (xs.length + n0.toNat) c e)).run C.P w = .ok nc { w with drawn := w.drawn + 1 } :=
      ⟨_, by show _ ≤ Question.cut (.appendCap (xs.length + n0.toNat) c e) (w.tape w.drawn (.appendCap (xs.length + n0.toNat) c e)); simp only [Question.cut]; omega, by rw [run_choose]; rfl⟩
    have hst1 := hst.drew (w.drawn + 1)
    generalize hw1 : ({ w with drawn := w.drawn + 1 } : World) = w1 at hst1 hch
    obtain ⟨h0, r0, hle0⟩ := hst1.nth (j := 0) rfl
    obtain ⟨cx, hrx, hcx⟩ := OS.range r0 hle0
    have hold := run_firstCells (P := C.P) (c := c) hrx hcx
    have hrun : (Builtin.append_ #[t, t'] ty #[.slice B xs.length c, (.int kd n0)]).run C.P w = .ok (.slice (some ⟨w1.heap.size, 0, none⟩) (xs.length + n0.toNat) nc) (w1.alloc (.cells (cx ++ cs ++ List.flatten (List.replicate (nc - (xs.length + n0.toNat)) cz)).toArray e)) := by
      have h63 : ¬ (9223372036854775807 < (xs.length : Int) + (n0.toNat : Int)) := by omega
      have h48 : ¬ (281474976710656 < Builtin.nextslicecap (xs.length + n0.toNat) c * ii.bytes) := by rw [hs2]; omega
      have hfor : Question.forced (.appendCap (xs.length + n0.toNat) c e) = false := rfl
      rw [run_choose, hfor] at hch
      simp only [Bool.false_eq_true, if_false, Result.ok.injEq] at hch
      obtain ⟨hch1, hch2⟩ := hch
      subst hch2
      replace hold : (Builtin.firstCells df.sz xs.length (.slice B xs.length c)).run C.P w.drew = .ok cx.toArray w.drew := hold
      have h63' : ¬ (9223372036854775807 < (xs.length : Int) + max n0 0) := by omega
      simp [Builtin.append_, run_underlying ht.und, run_underlying hxt, run_sizeOf ht.size, asInt, asIntOf, hwr, hneg, h48a, hti, hfit, h63, h63', h48, hfor, hch1, hold, hzv, hzc, zeroCells_eq cz _ df.sz (df.len hR), newRow]
      split
      · rename_i hz
        have hc0 : cs = [] := List.eq_nil_of_length_eq_zero (by omega)
        rw [hc0]
        rfl
      · rfl
    refine ⟨_, _, H, _, by rw [hexec _ hrun]; rfl, hst1.drop.alloc (.cells (cx ++ cs ++ List.flatten (List.replicate (nc - (xs.length + n0.toNat)) cz)).toArray e) (r := OS e df (some ⟨w1.heap.size, 0, none⟩) nc (xs ++ List.replicate n0.toNat z0)) ?_, ?_⟩
    · refine ⟨by rw [List.length_append, hlr]; exact hnc, .inr ⟨w1.heap.size, List.replicate (nc - (xs.length + n0.toNat)) z0, cx ++ cs ++ List.flatten (List.replicate (nc - (xs.length + n0.toNat)) cz), [], (0, 0), rfl, Rows.append (Rows.append hrx hrows) (Rows.replicate hR _), by simp only [List.length_append, List.length_replicate]; omega, .zero, by rw [List.append_nil]⟩⟩
    · have := gg (some ⟨w1.heap.size, 0, none⟩) nc
      rw [List.length_append, hlr] at this
      exact this
end
end Go.Proofs.Ytpffemcpfddjbaa.K
