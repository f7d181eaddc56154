/- From contracts to a row: what is handed in, as this text's kinds; what is handed back (own text). -/
import Derived.Test.YtpffemcpfddjbaaMemB
import Derived.WalkKit
import Derived.ProofKit
import Derived.OpenShut
import Derived.ShutString
import Derived.ChangeOld
import Derived.Below
import Derived.SizedLaws
import Derived.ChangeSlices
namespace Go.Proofs.Ytpffemcpfddjbaa.K
open Go Go.ChangeShapes Go.WideShapes Go.ChangeAt Go.RowKit
theorem St.first (W : World) : St W W (ph W) [] := ⟨⟨PH.emp, rfl, fun _ => .inr rfl, PH.le_refl _, PH.emp_le _⟩, rfl, rfl, rfl⟩
theorem Below.of_le {W w' : World} (h1 : w'.os = W.os) (h2 : w'.tape = W.tape) (h3 : w'.output = W.output) (h : (ph W).le (ph w')) : Below W.heap.size W w' := by
  refine ⟨h1, h2, h3, ?_, fun k hk => ?_⟩
  · rcases Nat.eq_zero_or_pos W.heap.size with e | e
    · omega
    · have := h (W.heap.size - 1) _ (Array.getElem?_eq_getElem (show W.heap.size - 1 < W.heap.size by omega))
      obtain ⟨hlt, _⟩ := Array.getElem?_eq_some_iff.1 this
      omega
  · have e : W.heap[k]? = some W.heap[k] := Array.getElem?_eq_getElem hk
    rw [e]
    exact h k _ e
theorem Ctr.calls {P : Program} {f : FuncId} {args : List Value} {W : World} {v : Value} (h : Ctr P f args W (ph W) [] (fun v' _ L' => v' = v ∧ [] = L')) :
    Calls P f args.toArray W fun e w' => e = .returned v ∧ Below W.heap.size W w' :=
  (h W (St.first W)).mono fun e w' ⟨v', H', L', he, hle, ⟨hv, hL⟩, hst⟩ => by
    subst hL; subst hv
    obtain ⟨h', _, _, hH, _⟩ := hst.heap
    exact ⟨he, Below.of_le hst.os hst.tape hst.output (PH.le_trans hle hH)⟩
theorem CtrS.calls {P : Program} {f : FuncId} {args : List Value} {W : World} {v : Value} (h : CtrS P f args W (ph W) [] (fun v' L' => v' = v ∧ [] = L')) :
    Calls P f args.toArray W fun e w' => e = .returned v ∧ Below W.heap.size W w' := Ctr.calls h.ctr
theorem sits_of {w : World} {a : Addr} {cells : List Value} {t : TypeId} {fz : Nat × Nat} (hb : ph w a.block = some (.cells cells.toArray t fz)) (hs : a.spot = none) {cs : List Value} (h : ∀ i, i < cs.length → w.cell? (a.add i) = cs[i]?) : cs = [] ∨ Sits cells a.off cs := by
  rcases Nat.eq_zero_or_pos cs.length with h0 | h0
  · left; exact List.eq_nil_of_length_eq_zero h0
  right
  have hb' : w.heap[a.block]? = some (.cells cells.toArray t fz) := hb
  have hc : ∀ i, i < cs.length → cells[a.off + i]? = cs[i]? := by
    intro i hi
    have := h i hi
    rw [add_eq hs] at this
    simpa [World.cell?, hb'] using this
  refine ⟨cells.take a.off, cells.drop (a.off + cs.length), ?_, ?_⟩
  · apply List.ext_getElem?
    intro i
    have hl : a.off + cs.length ≤ cells.length := by
      have := hc (cs.length - 1) (by omega)
      rw [List.getElem?_eq_getElem (show cs.length - 1 < cs.length by omega)] at this
      obtain ⟨h1, _⟩ := List.getElem?_eq_some_iff.1 this
      omega
    have ht : (cells.take a.off).length = a.off := by rw [List.length_take]; omega
    by_cases h1 : i < a.off
    · rw [List.append_assoc, List.getElem?_append_left (by omega), List.getElem?_take_of_lt h1]
    · by_cases h2 : i < a.off + cs.length
      · rw [List.getElem?_append_left (by rw [List.length_append]; omega), List.getElem?_append_right (by omega), ht]
        have := hc (i - a.off) (by omega)
        rwa [show a.off + (i - a.off) = i by omega] at this
      · rw [List.getElem?_append_right (by rw [List.length_append]; omega), List.length_append, ht, List.getElem?_drop]
        congr 1
        omega
  · have hl : a.off + cs.length ≤ cells.length := by
      have := hc (cs.length - 1) (by omega)
      rw [List.getElem?_eq_getElem (show cs.length - 1 < cs.length by omega)] at this
      obtain ⟨h1, _⟩ := List.getElem?_eq_some_iff.1 this
      omega
    rw [List.length_take]; omega
/-- bytes handed in -/
theorem open_u8s {H : Type} {enc : TypeId × Value → H} {P : Program} {W : World} {held : Bool} {t e : TypeId} {a : Option Addr} {len cap : Nat} {d : DataW H} {ps : List MemPlace}
    (ht : P.underlying t = some (.slice e)) (he : P.underlying e = some (.int .u8)) (hc : P.cellsOf e = 1) (h : DataW.Trod enc P W 0 (fun _ => true) held t (.slice a len cap) d ps) :
    ∃ xs : Str, xs.length = len ∧ SlR Kd.u8 (ph W) a cap xs := by
  obtain ⟨fuel, hf⟩ := h
  rcases open_ints ht he hc hf with ⟨hcs, _⟩ | ⟨x, l, c, zs, hcs, _, hl, hm, hz, _, hcell, hwz⟩
  · simp [Value.cells] at hcs
    obtain ⟨rfl, rfl, rfl⟩ := hcs
    exact ⟨[], rfl, SlR.nil _ _⟩
  · simp [Value.cells] at hcs
    obtain ⟨rfl, rfl, rfl⟩ := hcs
    have hz' : zs.length = cap := by simpa using hz
    let xs : Str := (zs.take len).map fun z => UInt8.ofNat z.toNat
    have hxl : xs.length = len := by simp [xs]; omega
    refine ⟨xs, hxl, by omega, ?_⟩
    rcases Nat.eq_zero_or_pos len with h0 | h0
    · left; exact List.eq_nil_of_length_eq_zero (by omega)
    have hcell0 := hcell 0 (by omega)
    have hsp : x.spot = none := by simpa [Addr.add] using World.cell?_spot hcell0
    have hwf : ∀ z ∈ zs, 0 ≤ z ∧ z < 256 := by
      intro z hzz
      have := hwz z hzz
      simp [Lit.wf] at this
      have e1 : IntKind.min .u8 = 0 := rfl
      have e2 : IntKind.max .u8 = 255 := rfl
      omega
    obtain ⟨cells, tt, fz, hb⟩ : ∃ cells tt fz, ph W x.block = some (.cells cells tt fz) := by
      have h1 := hcell0
      rw [add_eq hsp] at h1
      unfold World.cell? at h1
      split at h1
      · rename_i c0 t0 f0 hh; exact ⟨_, _, _, hh⟩
      · cases h1
    right
    refine ⟨x, rfl, hsp, cells, tt, fz, xs.map u8V, hb, ?_, rows_u8 _ _⟩
    have := sits_of (w := W) (a := x) (cells := cells.toList) (t := tt) (fz := fz) (by simpa using hb) hsp (cs := xs.map u8V) (fun i hi => by
      have hi' : i < len := by simpa [hxl] using hi
      rw [hcell i (by omega)]
      have hzi : i < zs.length := by omega
      have hr := hwf (zs[i]) (List.getElem_mem _)
      simp only [xs, List.map_map, List.getElem?_map, List.getElem?_take_of_lt hi', List.getElem?_eq_getElem hzi, Option.map_some, Function.comp, List.getD_eq_getElem?_getD, Option.getD_some]
      simp only [u8V, UInt8.toNat_ofNat']
      congr 2
      omega)
    rcases this with h1 | h1
    · have h2 : (xs.map u8V).length = 0 := by rw [h1]; rfl
      rw [List.length_map] at h2
      omega
    · exact h1
/-- how long they are -/
theorem sized_u8s {H : Type} {enc : TypeId × Value → H} {P : Program} {W : World} {held : Bool} {t e : TypeId} {a : Option Addr} {len cap : Nat} {d : DataW H} {ps : List MemPlace} {ts : List TypeId} {ds : List (DataW H)} {j : Nat} {sp : Nat → Bool}
    (hsz : (DataW.weightsEach P ts ds).all (· ≤ reachBytes) = true) (hj : ts[j]? = some t) (hd : ds[j]? = some d)
    (ht : P.underlying t = some (.slice e)) (he : P.underlying e = some (.int .u8)) (hc : P.cellsOf e = 1) (hB : P.bytesOf e = 1) (h : DataW.Trod enc P W 0 sp held t (.slice a len cap) d ps) : len ≤ 140737488351232 := by
  obtain ⟨fuel, hf⟩ := h
  rcases open_ints ht he hc hf with ⟨hcs, _⟩ | ⟨x, l, c, zs, hcs, _, hl, _, hz, hx, _, _⟩
  · simp [Value.cells] at hcs
    obtain ⟨rfl, rfl, rfl⟩ := hcs
    simp
  · simp [Value.cells] at hcs
    obtain ⟨rfl, rfl, rfl⟩ := hcs
    obtain ⟨hx, _⟩ := Prod.mk.inj hx
    subst hx
    have z := sized_slice hsz hj hd ht
    rw [hB] at z
    have hl2 : len ≤ zs.length := by
      rw [hz]
      split
      · exact hl
      · exact Nat.le_refl _
    have h1 : (lits (H := H) .u8 (zs.take len)).length + (lits (H := H) .u8 (zs.drop len)).length = zs.length := by
      simp [lits]
      omega
    rw [h1, Nat.mul_one] at z
    exact Nat.le_trans hl2 z
theorem strV_data (s : ByteArray) : strV s.data.toList = .string s := by simp [strV]
theorem rng_u64 {n : Int} (h : (Lit.int .u64 n).wf = true) : 0 ≤ n ∧ n < 18446744073709551616 := by
  simp [Lit.wf] at h
  have e1 : IntKind.min .u64 = 0 := by decide +kernel
  have e2 : IntKind.max .u64 = 18446744073709551615 := by decide +kernel
  omega
theorem rng_i64 {n : Int} (h : (Lit.int .i64 n).wf = true) : -9223372036854775808 ≤ n ∧ n < 9223372036854775808 := by
  simp [Lit.wf] at h
  have e1 : IntKind.min .i64 = -9223372036854775808 := by decide +kernel
  have e2 : IntKind.max .i64 = 9223372036854775807 := by decide +kernel
  omega
/-! ### What is handed in, of any kind -/
def Opens {α : Type} (P : Program) (W : World) (t : TypeId) (d : Kd α) (ok : α → Prop) : Prop :=
  ∀ {H : Type} {enc : TypeId × Value → H} {held : Bool} {fuel : Nat} {cs : List Value} {x : DataW H × List MemPlace}, DataW.trod enc P W 0 (fun _ => true) held fuel t cs = some x → ∃ y, d.R (ph W) y cs ∧ ok y
def OpenFs {α : Type} (P : Program) (W : World) (fs : List Field) (d : Kd α) (off : Nat) (ok : α → Prop) : Prop :=
  ∀ {H : Type} {enc : TypeId × Value → H} {held : Bool} {fuel : Nat} {cs : List Value}, (∀ f ∈ fs, ∃ x, DataW.trod enc P W 0 (fun _ => true) held fuel f.type ((cs.drop f.offset).take (P.cellsOf f.type)) = some x) → ∃ y, d.R (ph W) y ((cs.drop off).take d.sz) ∧ ok y
variable {P : Program} {W : World}
theorem Opens.int {t : TypeId} {k : IntKind} (ht : P.underlying t = some (.int k)) : Opens P W t (Kd.int k) (fun n => (Lit.int k n).wf = true) := by
  intro H enc held fuel cs x h
  obtain ⟨n, rfl, _, hw⟩ := DataW.trod_int ht h
  exact ⟨n, rfl, hw⟩
theorem Opens.u8 {t : TypeId} (ht : P.underlying t = some (.int .u8)) : Opens P W t Kd.u8 (fun _ => True) := by
  intro H enc held fuel cs x h
  obtain ⟨n, rfl, _, hw⟩ := DataW.trod_int ht h
  refine ⟨UInt8.ofNat n.toNat, ?_, trivial⟩
  simp [Lit.wf] at hw
  have e1 : IntKind.min .u8 = 0 := rfl
  have e2 : IntKind.max .u8 = 255 := rfl
  show _ = [u8V _]
  simp only [u8V, UInt8.toNat_ofNat']
  congr 2
  omega
theorem Opens.str {t : TypeId} (ht : P.underlying t = some .string) : Opens P W t Kd.str (fun s => s.length ≤ maxLen) := by
  intro H enc held fuel cs x h
  obtain ⟨s, rfl, _, hs⟩ := DataW.trod_string ht h
  exact ⟨s.data.toList, by rw [← strV_data]; rfl, hs⟩
theorem OpenFs.one {α : Type} {d : Kd α} {f : Field} {off : Nat} {ok : α → Prop} (ho : f.offset = off) (hs : P.cellsOf f.type = d.sz) (h : Opens P W f.type d ok) : OpenFs P W [f] d off ok := by
  intro H enc held fuel cs hx
  obtain ⟨x, hx⟩ := hx f (by simp)
  rw [ho, hs] at hx
  exact h hx
theorem OpenFs.cons {α β : Type} {d : Kd α} {d2 : Kd β} {f : Field} {fs : List Field} {off : Nat} {ok : α → Prop} {ok2 : β → Prop} (ho : f.offset = off) (hs : P.cellsOf f.type = d.sz) (h : Opens P W f.type d ok) (hr : OpenFs P W fs d2 (off + d.sz) ok2) :
    OpenFs P W (f :: fs) (Kd.pair d d2) off (fun p => ok p.1 ∧ ok2 p.2) := by
  intro H enc held fuel cs hx
  obtain ⟨x, h1⟩ := hx f (by simp)
  rw [ho, hs] at h1
  obtain ⟨y, hy, hok⟩ := h h1
  obtain ⟨z, hz, hok2⟩ := hr (fun g hg => hx g (by simp [hg]))
  refine ⟨(y, z), ?_, hok, hok2⟩
  have e : (cs.drop off).take (d.sz + d2.sz) = (cs.drop off).take d.sz ++ (cs.drop (off + d.sz)).take d2.sz := by
    rw [List.take_add, List.drop_drop]
  show (Kd.pair d d2).R _ _ ((cs.drop off).take (d.sz + d2.sz))
  rw [e]
  exact ⟨_, _, rfl, hy, hz⟩
theorem Opens.struct {α β : Type} {t : TypeId} {fs : Array Field} {d : Kd β} {fi : α → β} {inv : β → α} {ok : β → Prop} (hu : P.underlying t = some (.struct fs)) (hs : P.cellsOf t = d.sz) (hi : ∀ b, fi (inv b) = b) (h : OpenFs P W fs.toList d 0 ok) : Opens P W t (Kd.iso d fi) (fun x => ok (fi x)) := by
  intro H enc held fuel cs x hx
  obtain ⟨xs, n, rfl, _, hl, hxl, hf⟩ := DataW.trod_struct hu hx
  obtain ⟨y, hy, hok⟩ := h (H := H) (enc := enc) (held := held) (fuel := n) (cs := cs) (fun f hfm => by
    obtain ⟨i, hi⟩ := List.getElem?_of_mem hfm
    have hi' : fs[i]? = some f := by simpa using hi
    have hlt : i < xs.length := by
      rw [hxl]; exact (Array.getElem?_eq_some_iff.1 hi').1
    exact ⟨xs[i], by rw [hf i f hi']; exact List.getElem?_eq_getElem hlt⟩)
  refine ⟨inv y, ?_, by show ok (fi (inv y)); rw [hi]; exact hok⟩
  show d.R _ (fi (inv y)) cs
  rw [hi]
  rw [List.drop_zero, List.take_of_length_le (by omega)] at hy
  exact hy
/-- a struct handed in -/
theorem open_agg {α : Type} {t : TypeId} {k : Kd α} {ok : α → Prop} {H : Type} {enc : TypeId × Value → H} {held : Bool} {v : Value} {d : DataW H} {ps : List MemPlace} {fs : Array Field} {r : Reach} {b0 : Nat} (ho : Opens P W t k ok) (ht : P.underlying t = some (.struct fs))
    (hval : Value.okWide P W r b0 t v) (h : DataW.Trod enc P W 0 (fun _ => true) held t v d ps) : ∃ (cs : List Value) (y : α), v = .agg cs.toArray ∧ k.R (ph W) y cs ∧ ok y := by
  obtain ⟨cs, rfl, _⟩ := okWide_struct ht hval
  obtain ⟨fuel, hf⟩ := h
  obtain ⟨y, hy, hok⟩ := ho hf
  exact ⟨cs.toList, y, by simp, hy, hok⟩
theorem Opens.bool {t : TypeId} (ht : P.underlying t = some .bool) : Opens P W t Kd.bool (fun _ => True) := by
  intro H enc held fuel cs x h
  obtain ⟨b, rfl, _⟩ := DataW.trod_bool ht h
  exact ⟨b, rfl, trivial⟩
theorem Opens.weak {α : Type} {t : TypeId} {d : Kd α} {ok ok2 : α → Prop} (h : Opens P W t d ok) (hw : ∀ x, ok x → ok2 x) : Opens P W t d ok2 := by
  intro H enc held fuel cs x hx
  obtain ⟨y, hy, ho⟩ := h hx
  exact ⟨y, hy, hw y ho⟩
theorem open_elems {α : Type} {d : Kd α} {ok : α → Prop} {w : World} {a : Addr} (hs : a.spot = none) : ∀ (n : Nat), (∀ i, i < n → ∃ cs, w.cells? 0 (a.add (i * d.sz)) d.sz = some cs ∧ ∃ y, d.R (ph w) y cs ∧ ok y) →
    ∃ (xs : List α) (cs : List Value), xs.length = n ∧ Rows d (ph w) xs cs ∧ (∀ x ∈ xs, ok x) ∧ ∀ k, k < cs.length → w.cell? (a.add k) = cs[k]?
  | 0, _ => ⟨[], [], rfl, rfl, fun x hx => by (cases hx), fun k hk => by (cases hk)⟩
  | n + 1, h => by
    obtain ⟨xs, cs, hl, hr, ho, hc⟩ := open_elems hs n (fun i hi => h i (by omega))
    obtain ⟨c, hcs, y, hy, hok⟩ := h n (by omega)
    obtain ⟨_, hcl, hce⟩ := World.cells?_some hcs
    refine ⟨xs ++ [y], cs ++ c, by simp [hl], hr.append (Rows.single hy), fun x hx => ?_, fun k hk => ?_⟩
    · rcases List.mem_append.1 hx with h1 | h1
      · exact ho x h1
      · rw [List.mem_singleton.1 h1]; exact hok
    · have hrl := hr.len
      rw [hl] at hrl
      rw [List.length_append] at hk
      by_cases h1 : k < cs.length
      · rw [List.getElem?_append_left h1]; exact hc k h1
      · rw [List.getElem?_append_right (by omega), ← hce (k - cs.length) (by omega), add_eq hs, add_eq hs, add_eq rfl, hrl]
        show w.cell? ⟨a.block, a.off + k, none⟩ = w.cell? ⟨a.block, a.off + n * d.sz + (k - n * d.sz), none⟩
        rw [show a.off + n * d.sz + (k - n * d.sz) = a.off + k by omega]
theorem open_sl {α : Type} {H : Type} {enc : TypeId × Value → H} {held : Bool} {t e : TypeId} {d : Kd α} {ok : α → Prop} {fuel : Nat} {a : Option Addr} {len cap : Nat} {x : DataW H × List MemPlace}
    (ht : P.underlying t = some (.slice e)) (hc : P.cellsOf e = d.sz) (hp : 0 < d.sz) (ho : Opens P W e d ok) (h : DataW.trod enc P W 0 (fun _ => true) held fuel t [.slice a len cap] = some x) :
    ∃ xs : List α, xs.length = len ∧ SlR d (ph W) a cap xs ∧ xs.length ≤ maxLen ∧ ∀ x ∈ xs, ok x := by
  rcases DataW.trod_slice ht h with ⟨hcs, _⟩ | ⟨A, l, c, elems, rest, n, _, hcs, _, _, hl, hm, hlen, hel, _, _⟩
  · simp at hcs
    obtain ⟨rfl, rfl, rfl⟩ := hcs
    exact ⟨[], rfl, SlR.nil _ _, Nat.zero_le _, fun x hx => by cases hx⟩
  · simp at hcs
    obtain ⟨rfl, rfl, rfl⟩ := hcs
    rcases Nat.eq_zero_or_pos len with h0 | h0
    · exact ⟨[], by simp [h0], SlR.nil _ _, Nat.zero_le _, fun x hx => by cases hx⟩
    have hall : ∀ i, i < len → ∃ cs, W.cells? 0 (A.add (i * d.sz)) d.sz = some cs ∧ ∃ y, d.R (ph W) y cs ∧ ok y := by
      intro i hi
      have h1 := hel i hi
      rw [List.getElem?_eq_getElem (show i < elems.length by omega), hc, Option.bind_eq_some_iff] at h1
      obtain ⟨cs, h2, h3⟩ := h1
      exact ⟨cs, h2, ho h3⟩
    have hsp : A.spot = none := by
      obtain ⟨cs, h2, _⟩ := hall 0 h0
      obtain ⟨_, hcl, hce⟩ := World.cells?_some h2
      have h3 := hce 0 hp
      rw [List.getElem?_eq_getElem (show 0 < cs.length by omega)] at h3
      have h4 := World.cell?_spot h3
      unfold Addr.add at h4
      simpa using h4
    obtain ⟨xs, cs, hxl, hr, hok, hce⟩ := open_elems (d := d) (ok := ok) hsp len hall
    refine ⟨xs, hxl, ⟨by omega, .inr ?_⟩, by omega, hok⟩
    have hcl : cs.length = len * d.sz := by rw [hr.len, hxl]
    have hpos : 0 < cs.length := by rw [hcl]; exact Nat.mul_pos h0 hp
    obtain ⟨cells, tt, fz, hb⟩ : ∃ cells tt fz, ph W A.block = some (.cells cells tt fz) := by
      have h1 := hce 0 hpos
      rw [add_eq hsp, List.getElem?_eq_getElem hpos] at h1
      unfold World.cell? at h1
      split at h1
      · rename_i c0 t0 f0 hh; exact ⟨_, _, _, hh⟩
      · cases h1
    have := sits_of (w := W) (a := A) (cells := cells.toList) (t := tt) (fz := fz) (by simpa using hb) hsp (cs := cs) hce
    rcases this with h1 | h1
    · rw [h1] at hpos; cases hpos
    · exact ⟨A, rfl, hsp, cells, tt, fz, cs, hb, h1, hr⟩
theorem Opens.slice {α : Type} {t e : TypeId} {d : Kd α} {ok : α → Prop} (ht : P.underlying t = some (.slice e)) (hc : P.cellsOf e = d.sz) (hp : 0 < d.sz) (ho : Opens P W e d ok) : Opens P W t (Kd.sl d) (fun xs => xs.length ≤ maxLen ∧ ∀ x ∈ xs, ok x) := by
  intro H enc held fuel cs x h
  rcases DataW.trod_slice ht h with ⟨rfl, _⟩ | ⟨A, l, c, elems, rest, n, _, rfl, _⟩
  · exact ⟨[], ⟨none, 0, rfl, SlR.nil _ _⟩, Nat.zero_le _, fun x hx => by cases hx⟩
  · obtain ⟨xs, rfl, hs, hok⟩ := open_sl ht hc hp ho h
    exact ⟨xs, ⟨_, _, rfl, hs⟩, hok⟩
/-- a slice handed in -/
theorem open_slice {α : Type} {H : Type} {enc : TypeId × Value → H} {held : Bool} {t e : TypeId} {d : Kd α} {ok : α → Prop} {a : Option Addr} {len cap : Nat} {x : DataW H} {ps : List MemPlace}
    (ho : Opens P W e d ok) (ht : P.underlying t = some (.slice e)) (hc : P.cellsOf e = d.sz) (hp : 0 < d.sz) (h : DataW.Trod enc P W 0 (fun _ => true) held t (.slice a len cap) x ps) :
    ∃ xs : List α, xs.length = len ∧ SlR d (ph W) a cap xs ∧ ∀ x ∈ xs, ok x := by
  obtain ⟨fuel, hf⟩ := h
  obtain ⟨xs, h1, h2, _, h3⟩ := open_sl ht hc hp ho hf
  exact ⟨xs, h1, h2, h3⟩
/-- how long it is -/
theorem sized_sl {H : Type} {enc : TypeId × Value → H} {held : Bool} {t e : TypeId} {a : Option Addr} {len cap : Nat} {d : DataW H} {ps : List MemPlace} {ts : List TypeId} {ds : List (DataW H)} {j : Nat} {sp : Nat → Bool}
    (hsz : (DataW.weightsEach P ts ds).all (· ≤ reachBytes) = true) (hj : ts[j]? = some t) (hd : ds[j]? = some d)
    (ht : P.underlying t = some (.slice e)) {s : Nat} (hB : P.bytesOf e = s) (h : DataW.Trod enc P W 0 sp held t (.slice a len cap) d ps) : len * s ≤ 140737488351232 := by
  obtain ⟨fuel, hf⟩ := h
  rcases DataW.trod_slice ht hf with ⟨hcs, _⟩ | ⟨A, l, c, elems, rest, n, _, hcs, hx, _, hl, hm, hlen, _⟩
  · simp [Value.cells] at hcs
    obtain ⟨rfl, rfl, rfl⟩ := hcs
    simp
  · simp [Value.cells] at hcs
    obtain ⟨rfl, rfl, rfl⟩ := hcs
    obtain ⟨hx, _⟩ := Prod.mk.inj hx
    subst hx
    have z := sized_slice hsz hj hd ht
    rw [List.length_map, List.length_map, hlen] at z
    rw [hB] at z
    exact Nat.le_trans (Nat.mul_le_mul_right _ (Nat.le_add_right _ _)) z
theorem rows_pieces {α : Type} {d : Kd α} {ok : α → Prop} {H : PH} {cs : List Value} : ∀ (n : Nat), n * d.sz ≤ cs.length → (∀ i, i < n → ∃ y, d.R H y ((cs.drop (i * d.sz)).take d.sz) ∧ ok y) →
    ∃ xs : List α, xs.length = n ∧ Rows d H xs (cs.take (n * d.sz)) ∧ ∀ x ∈ xs, ok x
  | 0, _, _ => ⟨[], rfl, by simp [Rows], fun x hx => by (cases hx)⟩
  | n + 1, hl, h => by
    rw [Nat.succ_mul] at hl
    obtain ⟨xs, hx, hr, ho⟩ := rows_pieces n (by omega) (fun i hi => h i (by omega))
    obtain ⟨y, hy, hok⟩ := h n (by omega)
    refine ⟨xs ++ [y], by simp [hx], ?_, fun x hx => ?_⟩
    · rw [Nat.succ_mul, List.take_add]
      exact hr.append (Rows.single hy)
    · rcases List.mem_append.1 hx with h1 | h1
      · exact ho x h1
      · rw [List.mem_singleton.1 h1]; exact hok
theorem Opens.array {α : Type} {t e : TypeId} {n : Nat} {d : Kd α} {ok : α → Prop} (ht : P.underlying t = some (.array n e)) (hc : P.cellsOf e = d.sz) (hn : P.cellsOf t = n * d.sz) (ho : Opens P W e d ok) : Opens P W t (Kd.arr n d) (fun xs => ∀ x ∈ xs, ok x) := by
  intro H enc held fuel cs x h
  obtain ⟨xs, m, rfl, _, hl, hxl, hf⟩ := DataW.trod_array ht h
  obtain ⟨ys, hy, hr, hok⟩ := rows_pieces (d := d) (ok := ok) (H := ph W) (cs := cs) n (by omega) (fun i hi => by
    have h1 := hf i hi
    rw [hc, List.getElem?_eq_getElem (show i < xs.length by omega)] at h1
    exact ho h1)
  rw [List.take_of_length_le (by omega)] at hr
  exact ⟨ys, ⟨hy, hr⟩, hok⟩
end Go.Proofs.Ytpffemcpfddjbaa.K
