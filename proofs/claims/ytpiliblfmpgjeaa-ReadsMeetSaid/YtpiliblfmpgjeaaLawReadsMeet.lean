/- Own text, printed by wip/gen/row.py for the row ReadsMeet. -/
import Derived.Test.YtpiliblfmpgjeaaAw
import Derived.Test.YtpiliblfmpgjeaaAp
import Derived.Test.YtpiliblfmpgjeaaRow
import Derived.Test.YtpiliblfmpgjeaaRows
import Derived.KernelRfl
namespace Go.Proofs.Ytpiliblfmpgjeaa.readsMeet
open Go Go.ChangeShapes Go.WideShapes Go.ChangeAt Go.RowKit K
open Go.ChangeMaps (open_string shut_string)
set_option linter.unusedVariables false
theorem own : ownKnob Try.prog.godebug = none := by kernel_rfl
theorem laidOut : laidOutB Try.prog = true := by kernel_rfl
set_option maxRecDepth 100000 in
theorem lifted (os : Os) (started : os.Started) (H : Type) (enc : TypeId × Value → H) :
    ReturnsInHanded {} Try.checked os 3 .any (Rows.readsMeetSpec.pre6 enc Try.prog Try.f3 Rows.readsMeetRow.domain false) (Rows.readsMeetSpec.post enc Try.prog Try.f3 false true false false) := by
  refine returnsInHanded_of_change_sized (C := Try.checked) own started (by kernel_rfl) Try.func3
    (ChangeSpec.witness6 (enc := enc) (C := Try.checked) false ⟨#[], #[.agg (([.int .i64 0] : List Value) ++ (([.int .u32 0] : List Value) ++ (([strV []] : List Value) ++ (([.int .i64 0] : List Value) ++ (([.int .i64 0] : List Value)))))).toArray, .agg (([.int .i64 0] : List Value) ++ (([.int .u32 0] : List Value) ++ (([strV []] : List Value) ++ (([.int .i64 0] : List Value) ++ (([.int .i64 0] : List Value)))))).toArray], []⟩ 8 (by kernel_rfl) (by kernel_rfl) (by kernel_rfl) (by kernel_rfl)) ?_
  intro W base args ds gs before hval0 hW hcnd hsz0 _
  have hsz : (DataW.weightsEach Try.prog (Try.f3.params.toList ++ Rows.readsMeetSpec.plain.varTypes Try.prog) (ds ++ gs)).all (· ≤ reachBytes) = true := hsz0
  have hval : ∀ (j : Nat) t v, Try.f3.params[j]? = some t → args[j]? = some v → Value.okWide Try.prog W .any base t v := hval0
  have hW' := hW
  obtain ⟨p, q, hA0, hV, rfl, hfz, hnd⟩ := hW
  have hA : DataW.TrodAll enc Try.prog W 0 (fun _ => true) true Try.f3.params.toList args.toList ds p := hA0
  rw [Try.params3] at hA hval hsz
  obtain ⟨v0, vs0, d0, ds0, p0, q0, hargs, rfl, rfl, h0, r0⟩ := trodAll_cons hA
  obtain ⟨v1, vs1, d1, ds1, p1, q1, rfl, rfl, rfl, h1, r1⟩ := trodAll_cons r0
  obtain ⟨rfl, rfl, rfl⟩ := trodAll_nil r1
  obtain rfl : args = #[v0, v1] := by cases args; simp_all
  obtain ⟨rfl, rfl⟩ := trodVars_none hV
  have k0 := h0
  have lt0 : ∀ x ∈ p0, x.block < W.heap.size := by obtain ⟨m, hm⟩ := k0; exact DataW.trod_lt m _ _ _ hm
  obtain ⟨C0, a0, rfl, F0, w0⟩ := open_agg (k := K_api_Touch) (Opens.struct (inv := fun b => api_Touch.mk b.1 b.2.1 b.2.2.1 b.2.2.2.1 b.2.2.2.2) Try.underlying24 (by kernel_rfl) (fun b => rfl) (OpenFs.cons rfl (by kernel_rfl) (Opens.int Try.underlying3) (OpenFs.cons rfl (by kernel_rfl) (Opens.int Try.underlying22) (OpenFs.cons rfl (by kernel_rfl) (Opens.str Try.underlying9) (OpenFs.cons rfl (by kernel_rfl) (Opens.int Try.underlying3) (OpenFs.one rfl (by kernel_rfl) (Opens.int Try.underlying3))))))) Try.underlying24 (hval 0 24 v0 rfl rfl) h0
  have k1 := h1
  have lt1 : ∀ x ∈ p1, x.block < W.heap.size := by obtain ⟨m, hm⟩ := k1; exact DataW.trod_lt m _ _ _ hm
  obtain ⟨C1, a1, rfl, F1, w1⟩ := open_agg (k := K_api_Touch) (Opens.struct (inv := fun b => api_Touch.mk b.1 b.2.1 b.2.2.1 b.2.2.2.1 b.2.2.2.2) Try.underlying24 (by kernel_rfl) (fun b => rfl) (OpenFs.cons rfl (by kernel_rfl) (Opens.int Try.underlying3) (OpenFs.cons rfl (by kernel_rfl) (Opens.int Try.underlying22) (OpenFs.cons rfl (by kernel_rfl) (Opens.str Try.underlying9) (OpenFs.cons rfl (by kernel_rfl) (Opens.int Try.underlying3) (OpenFs.one rfl (by kernel_rfl) (Opens.int Try.underlying3))))))) Try.underlying24 (hval 1 24 v1 rfl rfl) h1
  clear hA0 hval0 hsz0 hsz
  have g := Ctr.calls (armoirelaw15_ReadsMeet.ok (O := W) (H := ph W) (Fr := []) C0 a0 F0 C1 a1 F1 (armoirelaw15_ReadsMeetLaw a0 a1 w0 w1))
  refine g.mono fun e W' ⟨he, bel⟩ => ?_
  subst he
  exact ⟨_, rfl, _, _, _, [], _, [], hW', trodAll_mk1 (shut_bool Try.underlying4 _), (trodAll_cons_mk (Below.trod laidOut (by kernel_rfl) (of_decide_eq_true (by kernel_rfl)) k0 bel lt0) (trodAll_cons_mk (Below.trod laidOut (by kernel_rfl) (of_decide_eq_true (by kernel_rfl)) k1 bel lt1) trodAll_mk0)), rfl, bel.frame _, fun h => by cases h⟩
theorem over : Rows.readsMeetRow.holds Try.pinned (OpenSpec.ofChange Rows.readsMeetSpec) :=
  OpenClaim.holds_of_wide 3 Try.f3 rfl rfl rfl rfl rfl rfl rfl ⟨rfl, rfl, rfl, rfl, rfl⟩ rfl rfl rfl rfl rfl (by kernel_rfl) Try.func3 (by kernel_rfl)
    (of_decide_eq_true (by kernel_rfl)) (by unfold Func.isWrapper; first | (rw [if_pos (by decide +kernel)]; kernel_rfl) | (rw [if_neg (by decide +kernel)]; exact ⟨rfl, rfl⟩))
    (fun os started H enc _ => lifted os started H enc)
theorem proved : Rows.ReadsMeetSaid := over
end Go.Proofs.Ytpiliblfmpgjeaa.readsMeet
namespace Go.Proofs.Ytpiliblfmpgjeaa
/-- the row -/
theorem readsMeet_holds : Rows.ReadsMeetSaid := readsMeet.proved
end Go.Proofs.Ytpiliblfmpgjeaa
#print axioms Go.Proofs.Ytpiliblfmpgjeaa.readsMeet_holds
