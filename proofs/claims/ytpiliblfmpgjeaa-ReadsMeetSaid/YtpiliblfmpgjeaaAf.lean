/- Own text, printed by wip/gen: kinds and types. -/
import Derived.Test.YtpiliblfmpgjeaaAd
import Derived.Test.YtpiliblfmpgjeaaProg
import Derived.KernelRfl
namespace Go.Proofs.Ytpiliblfmpgjeaa
open Go K
set_option linter.unusedVariables false
def K_api_Touch : Kd api_Touch := Kd.iso (Kd.pair (Kd.int .i64) (Kd.pair (Kd.int .u32) (Kd.pair Kd.str (Kd.pair (Kd.int .i64) (Kd.int .i64))))) (fun x => (x.kind, (x.ino, (x.name, (x.lo, x.hi)))))
theorem api_Touch.L_kind (x : api_Touch) : Lens K_api_Touch 0 (Kd.int .i64) (fun x => x.kind) (fun x y => { x with kind := y }) x := Lens.to (Lens.comp (Lens.iso (fi := fun p => ⟨p.1, p.2.1, p.2.2.1, p.2.2.2.1, p.2.2.2.2⟩) (fun _ => rfl)) Lens.fst) rfl rfl (fun _ => rfl)
theorem api_Touch.L_ino (x : api_Touch) : Lens K_api_Touch 1 (Kd.int .u32) (fun x => x.ino) (fun x y => { x with ino := y }) x := Lens.to (Lens.comp (Lens.iso (fi := fun p => ⟨p.1, p.2.1, p.2.2.1, p.2.2.2.1, p.2.2.2.2⟩) (fun _ => rfl)) (Lens.comp (Lens.snd) Lens.fst)) rfl rfl (fun _ => rfl)
theorem api_Touch.L_name (x : api_Touch) : Lens K_api_Touch 2 Kd.str (fun x => x.name) (fun x y => { x with name := y }) x := Lens.to (Lens.comp (Lens.iso (fi := fun p => ⟨p.1, p.2.1, p.2.2.1, p.2.2.2.1, p.2.2.2.2⟩) (fun _ => rfl)) (Lens.comp (Lens.comp (Lens.snd) Lens.snd) Lens.fst)) rfl rfl (fun _ => rfl)
theorem api_Touch.L_lo (x : api_Touch) : Lens K_api_Touch 3 (Kd.int .i64) (fun x => x.lo) (fun x y => { x with lo := y }) x := Lens.to (Lens.comp (Lens.iso (fi := fun p => ⟨p.1, p.2.1, p.2.2.1, p.2.2.2.1, p.2.2.2.2⟩) (fun _ => rfl)) (Lens.comp (Lens.comp (Lens.comp (Lens.snd) Lens.snd) Lens.snd) Lens.fst)) rfl rfl (fun _ => rfl)
theorem api_Touch.L_hi (x : api_Touch) : Lens K_api_Touch 4 (Kd.int .i64) (fun x => x.hi) (fun x y => { x with hi := y }) x := Lens.to (Lens.comp (Lens.iso (fi := fun p => ⟨p.1, p.2.1, p.2.2.1, p.2.2.2.1, p.2.2.2.2⟩) (fun _ => rfl)) (Lens.comp (Lens.comp (Lens.comp (Lens.snd) Lens.snd) Lens.snd) Lens.snd)) rfl rfl (fun _ => rfl)
theorem flat_api_Touch : Flat K_api_Touch := Flat.iso (Flat.pair Flat.I (Flat.pair Flat.I (Flat.pair Flat.S (Flat.pair Flat.I Flat.I))))
theorem K_api_Touch.mk {H : PH} {x : api_Touch} {c0 : List Value} (h0 : (Kd.int .i64).R H x.kind c0) {c1 : List Value} (h1 : (Kd.int .u32).R H x.ino c1) {c2 : List Value} (h2 : Kd.str.R H x.name c2) {c3 : List Value} (h3 : (Kd.int .i64).R H x.lo c3) {c4 : List Value} (h4 : (Kd.int .i64).R H x.hi c4) : K_api_Touch.R H x (c0 ++ (c1 ++ (c2 ++ (c3 ++ (c4))))) := ⟨_, _, rfl, h0, ⟨_, _, rfl, h1, ⟨_, _, rfl, h2, ⟨_, _, rfl, h3, h4⟩⟩⟩⟩
theorem ty3 : TyOk Try.prog 3 (Kd.int .i64) := ⟨by kernel_rfl, _, Try.underlying3, rfl⟩
theorem ty9 : TyOk Try.prog 9 Kd.str := ⟨by kernel_rfl, _, Try.underlying9, rfl⟩
theorem ty22 : TyOk Try.prog 22 (Kd.int .u32) := ⟨by kernel_rfl, _, Try.underlying22, rfl⟩
theorem ty24 : TyOk Try.prog 24 K_api_Touch := ⟨by kernel_rfl, _, Try.underlying24, rfl⟩
theorem eq24 : EqOk Try.prog 24 K_api_Touch 2 := EqOk.struct Try.underlying24 (by kernel_rfl) rfl (fun x y h => by cases x; cases y; simp only [Prod.mk.injEq] at h; simp only [api_Touch.mk.injEq]; exact h) (EqFs.cons (by decide) rfl ty3 (EqOk.int Try.underlying3) (EqFs.cons (by decide) rfl ty22 (EqOk.int Try.underlying22) (EqFs.cons (by decide) rfl ty9 (EqOk.str Try.underlying9) (EqFs.cons (by decide) rfl ty3 (EqOk.int Try.underlying3) (EqFs.one (by decide) rfl ty3 (EqOk.int Try.underlying3))))))
theorem sz3 : (Try.prog.info? 3).map (·.size) = some 1 := by kernel_rfl
theorem sz9 : (Try.prog.info? 9).map (·.size) = some 1 := by kernel_rfl
theorem sz22 : (Try.prog.info? 22).map (·.size) = some 1 := by kernel_rfl
theorem sz24 : (Try.prog.info? 24).map (·.size) = some 5 := by kernel_rfl
theorem call9 : CallOk Try.prog 9 := CallOk.mk Try.func9 (by kernel_rfl) (by kernel_rfl)
theorem call10 : CallOk Try.prog 10 := CallOk.mk Try.func10 (by kernel_rfl) (by kernel_rfl)
theorem call11 : CallOk Try.prog 11 := CallOk.mk Try.func11 (by kernel_rfl) (by kernel_rfl)
theorem call12 : CallOk Try.prog 12 := CallOk.mk Try.func12 (by kernel_rfl) (by kernel_rfl)
theorem call13 : CallOk Try.prog 13 := CallOk.mk Try.func13 (by kernel_rfl) (by kernel_rfl)
end Go.Proofs.Ytpiliblfmpgjeaa
