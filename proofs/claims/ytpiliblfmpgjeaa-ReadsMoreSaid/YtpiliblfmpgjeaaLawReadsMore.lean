/- Own text, printed by wip/g2/row.py for the row ReadsMore. -/
import Derived.Test.YtpiliblfmpgjeaaBw
import Derived.Test.YtpiliblfmpgjeaaBp
import Derived.Test.YtpiliblfmpgjeaaRow
import Derived.Test.YtpiliblfmpgjeaaRows
import Derived.KernelRfl
namespace Go.Proofs.Ytpiliblfmpgjeaa.readsMore
open Go Go.ChangeShapes Go.WideShapes Go.ChangeAt Go.RowKit K
open Go.ChangeMaps (open_string shut_string)
set_option linter.unusedVariables false
theorem own : ownKnob Try.prog.godebug = none := by kernel_rfl
theorem laidOut : laidOutB Try.prog = true := by kernel_rfl
set_option maxRecDepth 100000 in
theorem lifted (os : Os) (started : os.Started) (H : Type) (enc : TypeId × Value → H) :
    ReturnsInHanded {} Try.checked os 5 .any (Rows.readsMoreSpec.pre6 enc Try.prog Try.f5 Rows.readsMoreRow.domain false) (Rows.readsMoreSpec.post enc Try.prog Try.f5 false true false false) := by
  refine returnsInHanded_of_change_sized (C := Try.checked) own started (by kernel_rfl) Try.func5
    (ChangeSpec.witness6 (enc := enc) (C := Try.checked) false ⟨#[], #[.slice none 0 0, .int .u64 0, .slice none 0 0, .slice none 0 0], []⟩ 8 (by kernel_rfl) (by kernel_rfl) (by kernel_rfl) (by kernel_rfl)) ?_
  intro W base args ds gs before hval0 hW hcnd hsz0 _
  have hsz : (DataW.weightsEach Try.prog (Try.f5.params.toList ++ Rows.readsMoreSpec.plain.varTypes Try.prog) (ds ++ gs)).all (· ≤ reachBytes) = true := hsz0
  have hval : ∀ (j : Nat) t v, Try.f5.params[j]? = some t → args[j]? = some v → Value.okWide Try.prog W .any base t v := hval0
  have hW' := hW
  obtain ⟨p, q, hA0, hV, rfl, hfz, hnd⟩ := hW
  have hA : DataW.TrodAll enc Try.prog W 0 (fun _ => true) true Try.f5.params.toList args.toList ds p := hA0
  rw [Try.params5] at hA hval hsz
  obtain ⟨v0, vs0, d0, ds0, p0, q0, hargs, rfl, rfl, h0, r0⟩ := trodAll_cons hA
  obtain ⟨v1, vs1, d1, ds1, p1, q1, rfl, rfl, rfl, h1, r1⟩ := trodAll_cons r0
  obtain ⟨v2, vs2, d2, ds2, p2, q2, rfl, rfl, rfl, h2, r2⟩ := trodAll_cons r1
  obtain ⟨v3, vs3, d3, ds3, p3, q3, rfl, rfl, rfl, h3, r3⟩ := trodAll_cons r2
  obtain ⟨rfl, rfl, rfl⟩ := trodAll_nil r3
  obtain rfl : args = #[v0, v1, v2, v3] := by cases args; simp_all
  obtain ⟨rfl, rfl⟩ := trodVars_none hV
  obtain ⟨A0, len0, n0, rfl⟩ := okWide_slice Try.underlying29 (hval 0 29 v0 rfl rfl)
  have k0 := h0
  have lt0 : ∀ x ∈ p0, x.block < W.heap.size := by obtain ⟨m, hm⟩ := k0; exact DataW.trod_lt m _ _ _ hm
  have z0 := sized_sl hsz (j := 0) (t := 29) rfl rfl Try.underlying29 (of_decide_eq_true (by kernel_rfl)) h0
  obtain ⟨a0, rfl, F0, w0⟩ := open_slice (d := K_S_armoirelaw15_Act) (Opens.struct (inv := fun b => S_armoirelaw15_Act.mk b.1 b.2.1 b.2.2) Try.underlying35 (by kernel_rfl) (fun b => rfl) (OpenFs.cons rfl (by kernel_rfl) (Opens.int Try.underlying3) (OpenFs.cons rfl (by kernel_rfl) (Opens.int Try.underlying30) (OpenFs.one rfl (by kernel_rfl) (Opens.slice (d := K_S_api_Touch) Try.underlying31 (by kernel_rfl) (by decide) (Opens.struct (inv := fun b => S_api_Touch.mk b.1 b.2.1 b.2.2.1 b.2.2.2.1 b.2.2.2.2) Try.underlying24 (by kernel_rfl) (fun b => rfl) (OpenFs.cons rfl (by kernel_rfl) (Opens.int Try.underlying3) (OpenFs.cons rfl (by kernel_rfl) (Opens.int Try.underlying22) (OpenFs.cons rfl (by kernel_rfl) (Opens.str Try.underlying9) (OpenFs.cons rfl (by kernel_rfl) (Opens.int Try.underlying3) (OpenFs.one rfl (by kernel_rfl) (Opens.int Try.underlying3)))))))))))) Try.underlying29 (by kernel_rfl) (by decide) h0
  obtain ⟨a1, rfl, rfl, rfl, w1⟩ := open_int Try.underlying30 (hval 1 30 v1 rfl rfl) h1
  obtain ⟨A2, len2, n2, rfl⟩ := okWide_slice Try.underlying31 (hval 2 31 v2 rfl rfl)
  have k2 := h2
  have lt2 : ∀ x ∈ p2, x.block < W.heap.size := by obtain ⟨m, hm⟩ := k2; exact DataW.trod_lt m _ _ _ hm
  have z2 := sized_sl hsz (j := 2) (t := 31) rfl rfl Try.underlying31 (of_decide_eq_true (by kernel_rfl)) h2
  obtain ⟨a2, rfl, F2, w2⟩ := open_slice (d := K_S_api_Touch) (Opens.struct (inv := fun b => S_api_Touch.mk b.1 b.2.1 b.2.2.1 b.2.2.2.1 b.2.2.2.2) Try.underlying24 (by kernel_rfl) (fun b => rfl) (OpenFs.cons rfl (by kernel_rfl) (Opens.int Try.underlying3) (OpenFs.cons rfl (by kernel_rfl) (Opens.int Try.underlying22) (OpenFs.cons rfl (by kernel_rfl) (Opens.str Try.underlying9) (OpenFs.cons rfl (by kernel_rfl) (Opens.int Try.underlying3) (OpenFs.one rfl (by kernel_rfl) (Opens.int Try.underlying3))))))) Try.underlying31 (by kernel_rfl) (by decide) h2
  obtain ⟨A3, len3, n3, rfl⟩ := okWide_slice Try.underlying31 (hval 3 31 v3 rfl rfl)
  have k3 := h3
  have lt3 : ∀ x ∈ p3, x.block < W.heap.size := by obtain ⟨m, hm⟩ := k3; exact DataW.trod_lt m _ _ _ hm
  have z3 := sized_sl hsz (j := 3) (t := 31) rfl rfl Try.underlying31 (of_decide_eq_true (by kernel_rfl)) h3
  obtain ⟨a3, rfl, F3, w3⟩ := open_slice (d := K_S_api_Touch) (Opens.struct (inv := fun b => S_api_Touch.mk b.1 b.2.1 b.2.2.1 b.2.2.2.1 b.2.2.2.2) Try.underlying24 (by kernel_rfl) (fun b => rfl) (OpenFs.cons rfl (by kernel_rfl) (Opens.int Try.underlying3) (OpenFs.cons rfl (by kernel_rfl) (Opens.int Try.underlying22) (OpenFs.cons rfl (by kernel_rfl) (Opens.str Try.underlying9) (OpenFs.cons rfl (by kernel_rfl) (Opens.int Try.underlying3) (OpenFs.one rfl (by kernel_rfl) (Opens.int Try.underlying3))))))) Try.underlying31 (by kernel_rfl) (by decide) h3
  clear hA0 hval0 hsz0 hsz
  have g := (armoirelaw15_ReadsMore.ok (O := W) (H := ph W) (Fr := []) a0 A0 n0 F0 a1 a2 A2 n2 F2 a3 A3 n3 F3 (armoirelaw15_ReadsMoreLaw a0 a1 a2 a3 ⟨z0, w0⟩ w1 ⟨z2, w2⟩ ⟨z3, w3⟩)).calls
  refine g.mono fun e W' ⟨he, bel⟩ => ?_
  subst he
  exact ⟨_, rfl, _, _, _, [], _, [], hW', trodAll_mk1 (shut_bool Try.underlying4 _), (trodAll_cons_mk (Below.trod laidOut (by kernel_rfl) (of_decide_eq_true (by kernel_rfl)) k0 bel lt0) (trodAll_cons_mk (shut_int Try.underlying30 w1) (trodAll_cons_mk (Below.trod laidOut (by kernel_rfl) (of_decide_eq_true (by kernel_rfl)) k2 bel lt2) (trodAll_cons_mk (Below.trod laidOut (by kernel_rfl) (of_decide_eq_true (by kernel_rfl)) k3 bel lt3) trodAll_mk0)))), rfl, bel.frame _, fun h => by cases h⟩
theorem over : Rows.readsMoreRow.holds Try.pinned (OpenSpec.ofChange Rows.readsMoreSpec) :=
  OpenClaim.holds_of_wide 5 Try.f5 rfl rfl rfl rfl rfl rfl rfl ⟨rfl, rfl, rfl, rfl, rfl⟩ rfl rfl rfl rfl rfl (by kernel_rfl) Try.func5 (by kernel_rfl)
    (of_decide_eq_true (by kernel_rfl)) (by unfold Func.isWrapper; first | (rw [if_pos (by decide +kernel)]; kernel_rfl) | (rw [if_neg (by decide +kernel)]; exact ⟨rfl, rfl⟩))
    (fun os started H enc _ => lifted os started H enc)
theorem proved : Rows.ReadsMoreSaid := over
end Go.Proofs.Ytpiliblfmpgjeaa.readsMore
namespace Go.Proofs.Ytpiliblfmpgjeaa
/-- the row -/
theorem readsMore_holds : Rows.ReadsMoreSaid := readsMore.proved
end Go.Proofs.Ytpiliblfmpgjeaa
#print axioms Go.Proofs.Ytpiliblfmpgjeaa.readsMore_holds
