/- The judgement 'G': append, slices, strings, conversions, calls (own text). -/
import Derived.Test.YtpffemcpfddjbaaMem2
import Derived.Lib.ConvBytes
namespace Go.Proofs.Ytpffemcpfddjbaa.K
open Go

/-! ### append -/
def SrcR {α : Type} (P : Program) (w : World) (H : PH) (d : Kd α) (v : Value) (ys : List α) : Prop :=
  ∃ cs, Rows d H ys cs ∧ (Builtin.lenOf v).run P w = .ok ys.length w ∧ (Builtin.firstCells d.sz ys.length v).run P w = .ok cs.toArray w
theorem run_loadCells_range {P : Program} {w : World} {a : Addr} (hs : a.spot = none) {cs : List Value} (h : w.rangeAt a.block a.off cs) : (loadCells a cs.length).run P w = .ok cs.toArray w :=
  run_loadCells_list (P := P) w a cs (fun j v hv => by rw [add_eq hs]; exact h j v hv)
theorem SlR.range {α : Type} {d : Kd α} {H : PH} {B : Option Addr} {c : Nat} {xs : List α} (h : SlR d H B c xs) {w O : World} {L : List Res} (s : St w O H L) :
    ∃ cs, Rows d H xs cs ∧ ((xs = [] ∧ cs = []) ∨ ∃ a, B = some a ∧ a.spot = none ∧ w.rangeAt a.block a.off cs) := by
  obtain ⟨_, h | ⟨a, u, sp, cl, t, f, cs, b, sit, r⟩⟩ := h
  · exact ⟨[], by rw [h]; rfl, .inl ⟨h, rfl⟩⟩
  · exact ⟨cs, r, .inr ⟨a, u, sp, range_of (s.ro _ _ b) sit⟩⟩
theorem run_firstCells {P : Program} {α : Type} {d : Kd α} {H : PH} {B : Option Addr} {c : Nat} {xs : List α} {cs : List Value} {w : World} (hr : Rows d H xs cs) (h : (xs = [] ∧ cs = []) ∨ ∃ a, B = some a ∧ a.spot = none ∧ w.rangeAt a.block a.off cs) :
    (Builtin.firstCells d.sz xs.length (.slice B xs.length c)).run P w = .ok cs.toArray w := by
  rcases h with ⟨rfl, rfl⟩ | ⟨a, rfl, hs, hr'⟩
  · cases B with
    | none => rfl
    | some a => simp [Builtin.firstCells, loadCells, loadCellsFrom]
  · simp only [Builtin.firstCells]
    rw [← hr.len]
    exact run_loadCells_range hs hr'
theorem SrcR.ro {α : Type} {P : Program} {d : Kd α} {H : PH} {B : Option Addr} {c : Nat} {xs : List α} (h : SlR d H B c xs) {w O : World} {L : List Res} (s : St w O H L) : SrcR P w H d (.slice B xs.length c) xs := by
  obtain ⟨cs, hr, hc⟩ := h.range s
  exact ⟨cs, hr, rfl, run_firstCells hr hc⟩
theorem OS.range {α : Type} {t : TypeId} {d : Kd α} {H h : PH} {B : Option Addr} {c : Nat} {xs : List α} (r : (OS t d B c xs).holds H h) {w : World} (hle : h.le (ph w)) :
    ∃ cs, Rows d H xs cs ∧ ((xs = [] ∧ cs = []) ∨ ∃ a, B = some a ∧ a.spot = none ∧ w.rangeAt a.block a.off cs) := by
  obtain ⟨l, ⟨rfl, _⟩ | ⟨g, sp, cs, rs, fz, rfl, hrows, hn, hf, rfl⟩⟩ := r
  · have : xs = [] := List.eq_nil_of_length_eq_zero (by omega)
    subst this
    exact ⟨[], rfl, .inl ⟨rfl, rfl⟩⟩
  · obtain ⟨c1, c2, rfl, h1, h2⟩ := hrows.split
    exact ⟨c1, h1, .inr ⟨_, rfl, rfl, range_of (PH.le_one hle) ⟨[], c2 ++ rs, by simp, rfl⟩⟩⟩
theorem SrcR.os {α : Type} {P : Program} {t : TypeId} {d : Kd α} {H : PH} {B : Option Addr} {c j : Nat} {xs : List α} {w O : World} {L : List Res} (s : St w O H L) (e : nthR L j = some (OS t d B c xs)) : SrcR P w H d (.slice B xs.length c) xs := by
  obtain ⟨h, r, hle⟩ := s.nth e
  obtain ⟨cs, hr, hc⟩ := OS.range r hle
  exact ⟨cs, hr, rfl, run_firstCells hr hc⟩
theorem rows_u8 (H : PH) : ∀ s : Str, Rows Kd.u8 H s (s.map u8V)
  | [] => rfl
  | x :: r => ⟨[u8V x], r.map u8V, rfl, rfl, rows_u8 H r⟩
theorem rows_u8_eq {H : PH} : ∀ {s : Str} {cs : List Value}, Rows Kd.u8 H s cs → cs = s.map u8V
  | [], _, h => h
  | x :: r, _, ⟨c1, c2, u, a, b⟩ => by rw [u, show c1 = [u8V x] from a, rows_u8_eq b]; rfl
theorem SrcR.str (P : Program) (w : World) (H : PH) (s : Str) : SrcR P w H Kd.u8 (strV s) s := by
  refine ⟨s.map u8V, rows_u8 H s, by simp [strV, Builtin.lenOf, ByteArray.size], ?_⟩
  have e : (ByteArray.extract ⟨s.toArray⟩ 0 s.length) = ⟨s.toArray⟩ := by
    have h : s.length = (⟨s.toArray⟩ : ByteArray).size := by simp [ByteArray.size]
    rw [h]; exact ByteArray.extract_zero_size
  simp only [strV, Builtin.firstCells, e, Sem.run_pure]
  congr 1
  simp only [List.map_toArray]
  rfl
theorem growBy_le {need : Nat} (h : 256 ≤ need) : ∀ (r c : Nat), c ≤ 2 * need → Builtin.growBy need r c ≤ 2 * need
  | 0, _, hc => hc
  | r + 1, c, hc => by
    simp only [Builtin.growBy]
    split
    · exact hc
    · exact growBy_le h r _ (by omega)
theorem nextcap_le {need old : Nat} (h : old < need) : Builtin.nextslicecap need old ≤ 2 * need := by
  unfold Builtin.nextslicecap
  split
  · omega
  · split
    · omega
    · exact growBy_le (by omega) _ _ (by omega)
theorem zeroCells_eq (cz : List Value) (n s : Nat) (hs : cz.length = s) : Builtin.zeroCells cz.toArray n = (List.flatten (List.replicate n cz)).toArray := by
  unfold Builtin.zeroCells
  rcases Nat.eq_zero_or_pos s with h | h
  · have : cz = [] := List.eq_nil_of_length_eq_zero (by omega)
    subst this
    have e : List.flatten (List.replicate n ([] : List Value)) = [] := by induction n <;> simp_all [List.replicate_succ]
    rw [e]
    apply Array.ext'
    simp
  · rw [List.size_toArray, hs]
    have := madeCells_eq cz n s hs h
    rw [List.size_toArray, hs] at this
    exact this
def srcD : TypeDesc → Bool
  | .slice _ | .string => true
  | _ => false
section
variable {C : Cx} {H : PH} {A : List (Nat × Value)} {Ls L : List Res} {k : List Item}
variable {ops : Array Oper} {i : Nat} {rest : List Nat} {d : Nat} {ty : TypeId} {ps : String} {af : Array Edge} {gd : Option (Nat × Bool)}
theorem G.append {α : Type} {df : Kd α} {xs ys : List α} {z0 : α} {t t' e : TypeId} {by_ c n : Nat} {B : Option Addr} {s x : Operand} {vx : Value} {dx : TypeDesc} {z : Value} {cz : List Value}
    (ho : ops[i]? = some { dst := some d, op := .call { callee := .builtin .append, args := #[s, x], argTypes := #[t, t'] }, type := ty, pos := ps, after := af, guard := gd }) (hw : wantedA A ops gd = some true) (hn : Nat.blt d C.n = true)
    (hs : ev A s = some (.slice B n c)) (hn' : n = xs.length) (hx : ev A x = some vx) (ht : ElOk C.P t e df by_) (hxt : C.P.underlying t' = some dx) (hxi : srcD dx = true)
    (hz : (C.P.info? e).bind (·.zero) = some z) (hzc : z.cells = cz.toArray) (hR : df.R H z0 cz)
    (hsrc : ∀ w, St w C.O H (OS e df B c xs :: L) → SrcR C.P w H df vx ys)
    (hb : (xs.length + ys.length) * by_ ≤ 140737488355328 ∧ xs.length + ys.length ≤ 140737488355328)
    (gg : ∀ B' c', G C H ((d, .slice B' (xs ++ ys).length c') :: A) (OS e df B' c' (xs ++ ys) :: L) (.inRegion ops rest :: k)) : G C H A (OS e df B c xs :: L) (.inRegion ops (i :: rest) :: k) := by
  subst hn'
  refine G.valW ho hw rfl hn fun a w ha hst => ?_
  have hlen : (Builtin.lenOf vx).run C.P w = .ok ys.length w := by obtain ⟨_, _, h, _⟩ := hsrc w hst; exact h
  have hq : ∃ ii, C.P.info? e = some ii ∧ ii.size = df.sz ∧ ii.bytes = by_ := by
    have := ht.info
    cases hq : C.P.info? e with
    | none => simp [hq] at this
    | some ii => simp [hq] at this; exact ⟨ii, rfl, this.1, this.2⟩
  obtain ⟨ii, hq, hs1, hs2⟩ := hq
  have hzz : ii.zero = some z := by rw [hq] at hz; exact hz
  have hexec : ∀ r, (Builtin.append_ #[t, t'] ty #[.slice B xs.length c, vx]).run C.P w = r → (execOp a.eval { dst := some d, op := .call { callee := .builtin .append, args := #[s, x], argTypes := #[t, t'] }, type := ty, pos := ps, after := af, guard := gd }).run C.P w = r.andThen fun v w' => .ok (.value v) w' := by
    intro r hr
    simp [execOp, resolve, invoke, builtin, ha.eval hs, ha.eval hx, hr]
  have hdx : (∃ e', dx = .slice e') ∨ dx = .string := by cases dx <;> first | exact .inl ⟨_, rfl⟩ | exact .inr rfl | cases hxi
  have hmul : xs.length * df.sz + ys.length * df.sz = (xs.length + ys.length) * df.sz := (Nat.add_mul _ _ _).symm
  by_cases hfit : xs.length + ys.length ≤ c
  · -- it fits
    obtain ⟨cs, hrows, _, hfirst⟩ := hsrc w hst
    have hcl : cs.length = ys.length * df.sz := hrows.len
    obtain ⟨w', hrun, hst'⟩ := hst.turnE (r' := OS e df B c (xs ++ ys)) (Run := fun w' => (Builtin.append_ #[t, t'] ty #[.slice B xs.length c, vx]).run C.P w = .ok (.slice B (xs.length + ys.length) c) w') (by
      rintro h ⟨hl, ⟨rfl, rfl⟩ | ⟨g, sp, c0, rs, fz, rfl, hr0, hcc, hf, rfl⟩⟩ hle
      · have hx0 : xs = [] := List.eq_nil_of_length_eq_zero (by omega)
        have hy0 : ys = [] := List.eq_nil_of_length_eq_zero (by omega)
        subst hx0; subst hy0
        refine ⟨w, PH.emp, ?_, ⟨by simp, .inl ⟨rfl, rfl⟩⟩, fun _ => Iff.rfl, PH.emp_le _, fun _ _ => rfl, rfl, rfl, rfl⟩
        simp at hfirst
        have hc0 : cs = [] := List.eq_nil_of_length_eq_zero (by simpa using hcl)
        subst hc0
        cases B <;> rcases hdx with ⟨e', rfl⟩ | rfl <;> simp [Builtin.append_, run_underlying ht.und, run_underlying hxt, sizeOf, typeInfo, hq, hs1, hlen, hfirst, storeCells]
      · obtain ⟨c1, c2, rfl, hr1, hr2⟩ := hr0.split
        simp only [List.length_append] at hcc
        have esp : sp = sp.take ys.length ++ sp.drop ys.length := (List.take_append_drop _ _).symm
        rw [esp] at hr2
        obtain ⟨m, q, rfl, hm, hq2⟩ := hr2.split
        have hml : m.length = cs.length := by rw [hm.len, hcl, List.length_take, Nat.min_eq_left (by omega)]
        have hb0 := PH.le_one hle
        have hc1 : c1.length = xs.length * df.sz := hr1.len
        have hth : w.there g (xs.length * df.sz) cs.length := by
          have := there_of hb0 hf.at_ (p := c1) (c := m) (r := q ++ rs) (by simp)
          rw [hc1, hml] at this
          exact this
        have hadd : (⟨g, 0, none⟩ : Addr).add (xs.length * df.sz) = ⟨g, xs.length * df.sz, none⟩ := by rw [add_eq rfl]; simp
        have hsto := run_storeCells_cells (P := C.P) g (xs.length * df.sz) cs 0 w (fun j hj => (hth j hj).1) (fun j hj => (hth j hj).2) hrows.one
        rw [Nat.add_zero] at hsto
        obtain ⟨e1, e2, e3, e4⟩ := ph_setCells g e fz (q ++ rs) cs m c1 w hml (by simpa using hb0)
        rw [hc1] at e1 e2 e3 e4
        refine ⟨w.setCells g (xs.length * df.sz) cs, PH.one g (.cells (c1 ++ cs ++ (q ++ rs)).toArray e fz), ?_, ⟨by rw [List.length_append]; exact hfit, .inr ⟨g, sp.drop ys.length, c1 ++ cs ++ q, rs, fz, rfl, Rows.append (Rows.append hr1 hrows) hq2, by simp only [List.length_append, List.length_drop]; omega, hf.of (by simp only [List.length_append]; omega), by simp⟩⟩,
          fun b => by simp only [PH.one]; split <;> simp, PH.one_le (by rw [e1]; simp), fun b hb' => ?_, e2, e3, e4⟩
        · rcases hdx with ⟨e', rfl⟩ | rfl <;> simp [Builtin.append_, run_underlying ht.und, run_underlying hxt, sizeOf, typeInfo, hq, hs1, hlen, hfit, hfirst, hadd, hsto]
        · rw [e1]
          simp only [PH.one] at hb'
          split at hb'
          · cases hb'
          · rename_i hne; simp [hne])
    refine ⟨_, w', H, _, by rw [hexec _ hrun]; rfl, hst', ?_⟩
    have := gg B c
    rw [List.length_append] at this
    exact this
  · -- a new block
    have hcap := nextcap_le (need := xs.length + ys.length) (old := c) (by omega)
    have hcap2 : Builtin.nextslicecap (xs.length + ys.length) c * by_ ≤ 281474976710656 :=
      Nat.le_trans (Nat.mul_le_mul_right by_ hcap) (by rw [Nat.mul_assoc]; omega)
    obtain ⟨nc, hnc, hch⟩ : ∃ nc, xs.length + ys.length ≤ nc ∧ (choose (.appendCap (xs.length + ys.length) c e)).run C.P w = .ok nc { w with drawn := w.drawn + 1 } :=
      ⟨_, by show _ ≤ Question.cut (.appendCap (xs.length + ys.length) c e) (w.tape w.drawn (.appendCap (xs.length + ys.length) c e)); simp only [Question.cut]; omega, by rw [run_choose]; rfl⟩
    have hst1 := hst.drew (w.drawn + 1)
    generalize hw1 : ({ w with drawn := w.drawn + 1 } : World) = w1 at hst1 hch
    obtain ⟨h0, r0, hle0⟩ := hst1.nth (j := 0) rfl
    obtain ⟨cx, hrx, hcx⟩ := OS.range r0 hle0
    have hold := run_firstCells (P := C.P) (c := c) hrx hcx
    obtain ⟨cs, hrows, _, hfirst⟩ := hsrc w1 hst1
    have hrun : (Builtin.append_ #[t, t'] ty #[.slice B xs.length c, vx]).run C.P w = .ok (.slice (some ⟨w1.heap.size, 0, none⟩) (xs.length + ys.length) nc) (w1.alloc (.cells (cx ++ cs ++ List.flatten (List.replicate (nc - (xs.length + ys.length)) cz)).toArray e)) := by
      have h63 : ¬ (9223372036854775807 < (xs.length : Int) + (ys.length : Int)) := by omega
      have h48 : ¬ (281474976710656 < Builtin.nextslicecap (xs.length + ys.length) c * ii.bytes) := by rw [hs2]; omega
      have hzv : ∀ w, (zeroValue e).run C.P w = .ok z w := fun w => by simp [zeroValue, typeInfo, hq, hzz]
      have hti : ∀ w, (typeInfo e).run C.P w = .ok ii w := fun w => by simp [typeInfo, hq]
      have hfor : Question.forced (.appendCap (xs.length + ys.length) c e) = false := rfl
      rw [run_choose, hfor] at hch
      simp only [Bool.false_eq_true, if_false, Result.ok.injEq] at hch
      obtain ⟨hch1, hch2⟩ := hch
      subst hch2
      replace hold : (Builtin.firstCells df.sz xs.length (.slice B xs.length c)).run C.P w.drew = .ok cx.toArray w.drew := hold
      replace hfirst : (Builtin.firstCells df.sz ys.length vx).run C.P w.drew = .ok cs.toArray w.drew := hfirst
      rcases hdx with ⟨e', rfl⟩ | rfl <;> simp [Builtin.append_, run_underlying ht.und, run_underlying hxt, run_sizeOf ht.size, hti, hlen, hfit, h63, h48, hfor, hch1, hold, hfirst, hzv, hzc, zeroCells_eq cz _ df.sz (df.len hR), newRow]
    refine ⟨_, _, H, _, by rw [hexec _ hrun]; rfl, hst1.drop.alloc (.cells (cx ++ cs ++ List.flatten (List.replicate (nc - (xs.length + ys.length)) cz)).toArray e) (r := OS e df (some ⟨w1.heap.size, 0, none⟩) nc (xs ++ ys)) ?_, ?_⟩
    · refine ⟨by rw [List.length_append]; exact hnc, .inr ⟨w1.heap.size, List.replicate (nc - (xs.length + ys.length)) z0, cx ++ cs ++ List.flatten (List.replicate (nc - (xs.length + ys.length)) cz), [], (0, 0), rfl, Rows.append (Rows.append hrx hrows) (Rows.replicate hR _), by simp only [List.length_append, List.length_replicate]; omega, .zero, by rw [List.append_nil]⟩⟩
    · have := gg (some ⟨w1.heap.size, 0, none⟩) nc
      rw [List.length_append] at this
      exact this
end
end Go.Proofs.Ytpffemcpfddjbaa.K
