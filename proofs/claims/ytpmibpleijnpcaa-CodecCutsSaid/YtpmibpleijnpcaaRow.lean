/- From contracts to a row: what is handed in, as this text's kinds; what is handed back (own text). -/
import Derived.Test.YtpmibpleijnpcaaMem6
import Derived.WalkKit
import Derived.ProofKit
import Derived.OpenShut
import Derived.ShutString
import Derived.ChangeOld
import Derived.Below
import Derived.SizedLaws
import Derived.ChangeSlices
namespace Go.Proofs.Ytpmibpleijnpcaa.K
open Go Go.ChangeShapes Go.WideShapes Go.ChangeAt Go.RowKit
theorem St.first (W : World) : St W W (ph W) [] := ⟨⟨PH.emp, rfl, fun _ => .inr rfl, PH.le_refl _, PH.emp_le _⟩, rfl, rfl, rfl⟩
theorem Below.of_le {W w' : World} (h1 : w'.os = W.os) (h2 : w'.tape = W.tape) (h3 : w'.output = W.output) (h : (ph W).le (ph w')) : Below W.heap.size W w' := by
  refine ⟨h1, h2, h3, ?_, fun k hk => ?_⟩
  · rcases Nat.eq_zero_or_pos W.heap.size with e | e
    · omega
    · have := h (W.heap.size - 1) _ (Array.getElem?_eq_getElem (show W.heap.size - 1 < W.heap.size by omega))
      obtain ⟨hlt, _⟩ := Array.getElem?_eq_some_iff.1 this
      omega
  · have e : W.heap[k]? = some W.heap[k] := Array.getElem?_eq_getElem hk
    rw [e]
    exact h k _ e
theorem Ctr.calls {P : Program} {f : FuncId} {args : List Value} {W : World} {v : Value} (h : Ctr P f args W (ph W) [] (fun v' _ L' => v' = v ∧ [] = L')) :
    Calls P f args.toArray W fun e w' => e = .returned v ∧ Below W.heap.size W w' :=
  (h W (St.first W)).mono fun e w' ⟨v', H', L', he, hle, ⟨hv, hL⟩, hst⟩ => by
    subst hL; subst hv
    obtain ⟨h', _, _, hH, _⟩ := hst.heap
    exact ⟨he, Below.of_le hst.os hst.tape hst.output (PH.le_trans hle hH)⟩
theorem sits_of {w : World} {a : Addr} {cells : List Value} {t : TypeId} {fz : Nat × Nat} (hb : ph w a.block = some (.cells cells.toArray t fz)) (hs : a.spot = none) {cs : List Value} (h : ∀ i, i < cs.length → w.cell? (a.add i) = cs[i]?) : cs = [] ∨ Sits cells a.off cs := by
  rcases Nat.eq_zero_or_pos cs.length with h0 | h0
  · left; exact List.eq_nil_of_length_eq_zero h0
  right
  have hb' : w.heap[a.block]? = some (.cells cells.toArray t fz) := hb
  have hc : ∀ i, i < cs.length → cells[a.off + i]? = cs[i]? := by
    intro i hi
    have := h i hi
    rw [add_eq hs] at this
    simpa [World.cell?, hb'] using this
  refine ⟨cells.take a.off, cells.drop (a.off + cs.length), ?_, ?_⟩
  · apply List.ext_getElem?
    intro i
    have hl : a.off + cs.length ≤ cells.length := by
      have := hc (cs.length - 1) (by omega)
      rw [List.getElem?_eq_getElem (show cs.length - 1 < cs.length by omega)] at this
      obtain ⟨h1, _⟩ := List.getElem?_eq_some_iff.1 this
      omega
    have ht : (cells.take a.off).length = a.off := by rw [List.length_take]; omega
    by_cases h1 : i < a.off
    · rw [List.append_assoc, List.getElem?_append_left (by omega), List.getElem?_take_of_lt h1]
    · by_cases h2 : i < a.off + cs.length
      · rw [List.getElem?_append_left (by rw [List.length_append]; omega), List.getElem?_append_right (by omega), ht]
        have := hc (i - a.off) (by omega)
        rwa [show a.off + (i - a.off) = i by omega] at this
      · rw [List.getElem?_append_right (by rw [List.length_append]; omega), List.length_append, ht, List.getElem?_drop]
        congr 1
        omega
  · have hl : a.off + cs.length ≤ cells.length := by
      have := hc (cs.length - 1) (by omega)
      rw [List.getElem?_eq_getElem (show cs.length - 1 < cs.length by omega)] at this
      obtain ⟨h1, _⟩ := List.getElem?_eq_some_iff.1 this
      omega
    rw [List.length_take]; omega
/-- bytes handed in -/
theorem open_u8s {H : Type} {enc : TypeId × Value → H} {P : Program} {W : World} {held : Bool} {t e : TypeId} {a : Option Addr} {len cap : Nat} {d : DataW H} {ps : List MemPlace}
    (ht : P.underlying t = some (.slice e)) (he : P.underlying e = some (.int .u8)) (hc : P.cellsOf e = 1) (h : DataW.Trod enc P W 0 (fun _ => true) held t (.slice a len cap) d ps) :
    ∃ xs : Str, xs.length = len ∧ SlR Kd.u8 (ph W) a cap xs := by
  obtain ⟨fuel, hf⟩ := h
  rcases open_ints ht he hc hf with ⟨hcs, _⟩ | ⟨x, l, c, zs, hcs, _, hl, hm, hz, _, hcell, hwz⟩
  · simp [Value.cells] at hcs
    obtain ⟨rfl, rfl, rfl⟩ := hcs
    exact ⟨[], rfl, SlR.nil _ _⟩
  · simp [Value.cells] at hcs
    obtain ⟨rfl, rfl, rfl⟩ := hcs
    have hz' : zs.length = cap := by simpa using hz
    let xs : Str := (zs.take len).map fun z => UInt8.ofNat z.toNat
    have hxl : xs.length = len := by simp [xs]; omega
    refine ⟨xs, hxl, by omega, ?_⟩
    rcases Nat.eq_zero_or_pos len with h0 | h0
    · left; exact List.eq_nil_of_length_eq_zero (by omega)
    have hcell0 := hcell 0 (by omega)
    have hsp : x.spot = none := by simpa [Addr.add] using World.cell?_spot hcell0
    have hwf : ∀ z ∈ zs, 0 ≤ z ∧ z < 256 := by
      intro z hzz
      have := hwz z hzz
      simp [Lit.wf] at this
      have e1 : IntKind.min .u8 = 0 := rfl
      have e2 : IntKind.max .u8 = 255 := rfl
      omega
    obtain ⟨cells, tt, fz, hb⟩ : ∃ cells tt fz, ph W x.block = some (.cells cells tt fz) := by
      have h1 := hcell0
      rw [add_eq hsp] at h1
      unfold World.cell? at h1
      split at h1
      · rename_i c0 t0 f0 hh; exact ⟨_, _, _, hh⟩
      · cases h1
    right
    refine ⟨x, rfl, hsp, cells, tt, fz, xs.map u8V, hb, ?_, rows_u8 _ _⟩
    have := sits_of (w := W) (a := x) (cells := cells.toList) (t := tt) (fz := fz) (by simpa using hb) hsp (cs := xs.map u8V) (fun i hi => by
      have hi' : i < len := by simpa [hxl] using hi
      rw [hcell i (by omega)]
      have hzi : i < zs.length := by omega
      have hr := hwf (zs[i]) (List.getElem_mem _)
      simp only [xs, List.map_map, List.getElem?_map, List.getElem?_take_of_lt hi', List.getElem?_eq_getElem hzi, Option.map_some, Function.comp, List.getD_eq_getElem?_getD, Option.getD_some]
      simp only [u8V, UInt8.toNat_ofNat']
      congr 2
      omega)
    rcases this with h1 | h1
    · have h2 : (xs.map u8V).length = 0 := by rw [h1]; rfl
      rw [List.length_map] at h2
      omega
    · exact h1
/-- how long they are -/
theorem sized_u8s {H : Type} {enc : TypeId × Value → H} {P : Program} {W : World} {held : Bool} {t e : TypeId} {a : Option Addr} {len cap : Nat} {d : DataW H} {ps : List MemPlace} {ts : List TypeId} {ds : List (DataW H)} {j : Nat} {sp : Nat → Bool}
    (hsz : (DataW.weightsEach P ts ds).all (· ≤ reachBytes) = true) (hj : ts[j]? = some t) (hd : ds[j]? = some d)
    (ht : P.underlying t = some (.slice e)) (he : P.underlying e = some (.int .u8)) (hc : P.cellsOf e = 1) (hB : P.bytesOf e = 1) (h : DataW.Trod enc P W 0 sp held t (.slice a len cap) d ps) : len ≤ 140737488351232 := by
  obtain ⟨fuel, hf⟩ := h
  rcases open_ints ht he hc hf with ⟨hcs, _⟩ | ⟨x, l, c, zs, hcs, _, hl, _, hz, hx, _, _⟩
  · simp [Value.cells] at hcs
    obtain ⟨rfl, rfl, rfl⟩ := hcs
    simp
  · simp [Value.cells] at hcs
    obtain ⟨rfl, rfl, rfl⟩ := hcs
    obtain ⟨hx, _⟩ := Prod.mk.inj hx
    subst hx
    have z := sized_slice hsz hj hd ht
    rw [hB] at z
    have hl2 : len ≤ zs.length := by
      rw [hz]
      split
      · exact hl
      · exact Nat.le_refl _
    have h1 : (lits (H := H) .u8 (zs.take len)).length + (lits (H := H) .u8 (zs.drop len)).length = zs.length := by
      simp [lits]
      omega
    rw [h1, Nat.mul_one] at z
    exact Nat.le_trans hl2 z
theorem strV_data (s : ByteArray) : strV s.data.toList = .string s := by simp [strV]
theorem rng_u64 {n : Int} (h : (Lit.int .u64 n).wf = true) : 0 ≤ n ∧ n < 18446744073709551616 := by
  simp [Lit.wf] at h
  have e1 : IntKind.min .u64 = 0 := by decide +kernel
  have e2 : IntKind.max .u64 = 18446744073709551615 := by decide +kernel
  omega
theorem rng_i64 {n : Int} (h : (Lit.int .i64 n).wf = true) : -9223372036854775808 ≤ n ∧ n < 9223372036854775808 := by
  simp [Lit.wf] at h
  have e1 : IntKind.min .i64 = -9223372036854775808 := by decide +kernel
  have e2 : IntKind.max .i64 = 9223372036854775807 := by decide +kernel
  omega
end Go.Proofs.Ytpmibpleijnpcaa.K
