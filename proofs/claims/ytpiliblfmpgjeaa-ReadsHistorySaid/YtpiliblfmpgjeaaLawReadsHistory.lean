/- Own text, printed by wip/g2/row.py for the row ReadsHistory. -/
import Derived.Test.YtpiliblfmpgjeaaBw
import Derived.Test.YtpiliblfmpgjeaaCp
import Derived.Test.YtpiliblfmpgjeaaRow
import Derived.Test.YtpiliblfmpgjeaaRows
import Derived.KernelRfl
namespace Go.Proofs.Ytpiliblfmpgjeaa.readsHistory
open Go Go.ChangeShapes Go.WideShapes Go.ChangeAt Go.RowKit K
open Go.ChangeMaps (open_string shut_string)
set_option linter.unusedVariables false
theorem own : ownKnob Try.prog.godebug = none := by kernel_rfl
theorem laidOut : laidOutB Try.prog = true := by kernel_rfl
set_option maxRecDepth 100000 in
theorem lifted (os : Os) (started : os.Started) (H : Type) (enc : TypeId × Value → H) :
    ReturnsInHanded {} Try.checked os 8 .any (Rows.readsHistorySpec.pre6 enc Try.prog Try.f8 Rows.readsHistoryRow.domain false) (Rows.readsHistorySpec.post enc Try.prog Try.f8 false true false false) := by
  refine returnsInHanded_of_change_sized (C := Try.checked) own started (by kernel_rfl) Try.func8
    (ChangeSpec.witness6 (enc := enc) (C := Try.checked) false ⟨#[], #[.slice none 0 0], []⟩ 8 (by kernel_rfl) (by kernel_rfl) (by kernel_rfl) (by kernel_rfl)) ?_
  intro W base args ds gs before hval0 hW hcnd hsz0 _
  have hsz : (DataW.weightsEach Try.prog (Try.f8.params.toList ++ Rows.readsHistorySpec.plain.varTypes Try.prog) (ds ++ gs)).all (· ≤ reachBytes) = true := hsz0
  have hval : ∀ (j : Nat) t v, Try.f8.params[j]? = some t → args[j]? = some v → Value.okWide Try.prog W .any base t v := hval0
  have hW' := hW
  obtain ⟨p, q, hA0, hV, rfl, hfz, hnd⟩ := hW
  have hA : DataW.TrodAll enc Try.prog W 0 (fun _ => true) true Try.f8.params.toList args.toList ds p := hA0
  rw [Try.params8] at hA hval hsz
  obtain ⟨v0, vs0, d0, ds0, p0, q0, hargs, rfl, rfl, h0, r0⟩ := trodAll_cons hA
  obtain ⟨rfl, rfl, rfl⟩ := trodAll_nil r0
  obtain rfl : args = #[v0] := by cases args; simp_all
  obtain ⟨rfl, rfl⟩ := trodVars_none hV
  obtain ⟨A0, len0, n0, rfl⟩ := okWide_slice Try.underlying29 (hval 0 29 v0 rfl rfl)
  have k0 := h0
  have lt0 : ∀ x ∈ p0, x.block < W.heap.size := by obtain ⟨m, hm⟩ := k0; exact DataW.trod_lt m _ _ _ hm
  have z0 := sized_sl hsz (j := 0) (t := 29) rfl rfl Try.underlying29 (of_decide_eq_true (by kernel_rfl)) h0
  obtain ⟨a0, rfl, F0, w0⟩ := open_slice (d := K_S_armoirelaw15_Act) (Opens.struct (inv := fun b => S_armoirelaw15_Act.mk b.1 b.2.1 b.2.2) Try.underlying35 (by kernel_rfl) (fun b => rfl) (OpenFs.cons rfl (by kernel_rfl) (Opens.int Try.underlying3) (OpenFs.cons rfl (by kernel_rfl) (Opens.int Try.underlying30) (OpenFs.one rfl (by kernel_rfl) (Opens.slice (d := K_S_api_Touch) Try.underlying31 (by kernel_rfl) (by decide) (Opens.struct (inv := fun b => S_api_Touch.mk b.1 b.2.1 b.2.2.1 b.2.2.2.1 b.2.2.2.2) Try.underlying24 (by kernel_rfl) (fun b => rfl) (OpenFs.cons rfl (by kernel_rfl) (Opens.int Try.underlying3) (OpenFs.cons rfl (by kernel_rfl) (Opens.int Try.underlying22) (OpenFs.cons rfl (by kernel_rfl) (Opens.str Try.underlying9) (OpenFs.cons rfl (by kernel_rfl) (Opens.int Try.underlying3) (OpenFs.one rfl (by kernel_rfl) (Opens.int Try.underlying3)))))))))))) Try.underlying29 (by kernel_rfl) (by decide) h0
  clear hA0 hval0 hsz0 hsz
  have g := (armoirelaw15_ReadsHistory.ok (O := W) (H := ph W) (Fr := []) a0 A0 n0 F0 (armoirelaw15_ReadsHistoryLaw a0 ⟨z0, w0⟩)).calls
  refine g.mono fun e W' ⟨he, bel⟩ => ?_
  subst he
  exact ⟨_, rfl, _, _, _, [], _, [], hW', trodAll_mk1 (shut_bool Try.underlying4 _), (trodAll_cons_mk (Below.trod laidOut (by kernel_rfl) (of_decide_eq_true (by kernel_rfl)) k0 bel lt0) trodAll_mk0), rfl, bel.frame _, fun h => by cases h⟩
theorem over : Rows.readsHistoryRow.holds Try.pinned (OpenSpec.ofChange Rows.readsHistorySpec) :=
  OpenClaim.holds_of_wide 8 Try.f8 rfl rfl rfl rfl rfl rfl rfl ⟨rfl, rfl, rfl, rfl, rfl⟩ rfl rfl rfl rfl rfl (by kernel_rfl) Try.func8 (by kernel_rfl)
    (of_decide_eq_true (by kernel_rfl)) (by unfold Func.isWrapper; first | (rw [if_pos (by decide +kernel)]; kernel_rfl) | (rw [if_neg (by decide +kernel)]; exact ⟨rfl, rfl⟩))
    (fun os started H enc _ => lifted os started H enc)
theorem proved : Rows.ReadsHistorySaid := over
end Go.Proofs.Ytpiliblfmpgjeaa.readsHistory
namespace Go.Proofs.Ytpiliblfmpgjeaa
/-- the row -/
theorem readsHistory_holds : Rows.ReadsHistorySaid := readsHistory.proved
end Go.Proofs.Ytpiliblfmpgjeaa
#print axioms Go.Proofs.Ytpiliblfmpgjeaa.readsHistory_holds
