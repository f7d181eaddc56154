/- Own text, printed by wip/g2: kinds and types. -/
import Derived.Test.YtpffemcpfddjbaaAd
import Derived.Test.YtpffemcpfddjbaaProg
import Derived.KernelRfl
namespace Go.Proofs.Ytpffemcpfddjbaa
open Go K
set_option linter.unusedVariables false
structure R_free_Map where
  from_ : Int
  kinds : (Option Addr × Nat × Nat)
structure R_armoirelaw06_Op where
  do_ : Int
  n : Int
  keep : (Option Addr × Nat × Nat)
  clone : Bool
structure R_armoireref06_Map where
  from_ : Int
  k : (Option Addr × Nat × Nat)
def K_S_free_Map : Kd S_free_Map := Kd.iso (Kd.pair (Kd.int .i64) (Kd.sl Kd.u8)) (fun x => (x.from_, x.kinds))
theorem S_free_Map.L_from_ (x : S_free_Map) : Lens K_S_free_Map 0 (Kd.int .i64) (fun x => x.from_) (fun x y => { x with from_ := y }) x := Lens.to (Lens.comp (Lens.iso (fi := fun p => ⟨p.1, p.2⟩) (fun _ => rfl)) Lens.fst) rfl rfl (fun _ => rfl)
theorem S_free_Map.L_kinds (x : S_free_Map) : Lens K_S_free_Map 1 (Kd.sl Kd.u8) (fun x => x.kinds) (fun x y => { x with kinds := y }) x := Lens.to (Lens.comp (Lens.iso (fi := fun p => ⟨p.1, p.2⟩) (fun _ => rfl)) (Lens.snd)) rfl rfl (fun _ => rfl)
theorem K_S_free_Map.mk {H : PH} {x : S_free_Map} {c0 : List Value} (h0 : (Kd.int .i64).R H x.from_ c0) {c1 : List Value} (h1 : (Kd.sl Kd.u8).R H x.kinds c1) : K_S_free_Map.R H x (c0 ++ (c1)) := ⟨_, _, rfl, h0, h1⟩
def K_R_free_Map : Kd R_free_Map := Kd.iso (Kd.pair (Kd.int .i64) Kd.hdr) (fun x => (x.from_, x.kinds))
theorem R_free_Map.L_from_ (x : R_free_Map) : Lens K_R_free_Map 0 (Kd.int .i64) (fun x => x.from_) (fun x y => { x with from_ := y }) x := Lens.to (Lens.comp (Lens.iso (fi := fun p => ⟨p.1, p.2⟩) (fun _ => rfl)) Lens.fst) rfl rfl (fun _ => rfl)
theorem R_free_Map.L_kinds (x : R_free_Map) : Lens K_R_free_Map 1 Kd.hdr (fun x => x.kinds) (fun x y => { x with kinds := y }) x := Lens.to (Lens.comp (Lens.iso (fi := fun p => ⟨p.1, p.2⟩) (fun _ => rfl)) (Lens.snd)) rfl rfl (fun _ => rfl)
theorem flat_R_free_Map : Flat K_R_free_Map := Flat.iso (Flat.pair Flat.I Flat.sc)
theorem K_R_free_Map.mk {H : PH} {x : R_free_Map} {c0 : List Value} (h0 : (Kd.int .i64).R H x.from_ c0) {c1 : List Value} (h1 : Kd.hdr.R H x.kinds c1) : K_R_free_Map.R H x (c0 ++ (c1)) := ⟨_, _, rfl, h0, h1⟩
def K_S_armoirelaw06_Op : Kd S_armoirelaw06_Op := Kd.iso (Kd.pair (Kd.int .i64) (Kd.pair (Kd.int .i64) (Kd.pair (Kd.sl (Kd.int .i64)) Kd.bool))) (fun x => (x.do_, (x.n, (x.keep, x.clone))))
theorem S_armoirelaw06_Op.L_do_ (x : S_armoirelaw06_Op) : Lens K_S_armoirelaw06_Op 0 (Kd.int .i64) (fun x => x.do_) (fun x y => { x with do_ := y }) x := Lens.to (Lens.comp (Lens.iso (fi := fun p => ⟨p.1, p.2.1, p.2.2.1, p.2.2.2⟩) (fun _ => rfl)) Lens.fst) rfl rfl (fun _ => rfl)
theorem S_armoirelaw06_Op.L_n (x : S_armoirelaw06_Op) : Lens K_S_armoirelaw06_Op 1 (Kd.int .i64) (fun x => x.n) (fun x y => { x with n := y }) x := Lens.to (Lens.comp (Lens.iso (fi := fun p => ⟨p.1, p.2.1, p.2.2.1, p.2.2.2⟩) (fun _ => rfl)) (Lens.comp (Lens.snd) Lens.fst)) rfl rfl (fun _ => rfl)
theorem S_armoirelaw06_Op.L_keep (x : S_armoirelaw06_Op) : Lens K_S_armoirelaw06_Op 2 (Kd.sl (Kd.int .i64)) (fun x => x.keep) (fun x y => { x with keep := y }) x := Lens.to (Lens.comp (Lens.iso (fi := fun p => ⟨p.1, p.2.1, p.2.2.1, p.2.2.2⟩) (fun _ => rfl)) (Lens.comp (Lens.comp (Lens.snd) Lens.snd) Lens.fst)) rfl rfl (fun _ => rfl)
theorem S_armoirelaw06_Op.L_clone (x : S_armoirelaw06_Op) : Lens K_S_armoirelaw06_Op 3 Kd.bool (fun x => x.clone) (fun x y => { x with clone := y }) x := Lens.to (Lens.comp (Lens.iso (fi := fun p => ⟨p.1, p.2.1, p.2.2.1, p.2.2.2⟩) (fun _ => rfl)) (Lens.comp (Lens.comp (Lens.snd) Lens.snd) Lens.snd)) rfl rfl (fun _ => rfl)
theorem K_S_armoirelaw06_Op.mk {H : PH} {x : S_armoirelaw06_Op} {c0 : List Value} (h0 : (Kd.int .i64).R H x.do_ c0) {c1 : List Value} (h1 : (Kd.int .i64).R H x.n c1) {c2 : List Value} (h2 : (Kd.sl (Kd.int .i64)).R H x.keep c2) {c3 : List Value} (h3 : Kd.bool.R H x.clone c3) : K_S_armoirelaw06_Op.R H x (c0 ++ (c1 ++ (c2 ++ (c3)))) := ⟨_, _, rfl, h0, ⟨_, _, rfl, h1, ⟨_, _, rfl, h2, h3⟩⟩⟩
def K_R_armoirelaw06_Op : Kd R_armoirelaw06_Op := Kd.iso (Kd.pair (Kd.int .i64) (Kd.pair (Kd.int .i64) (Kd.pair Kd.hdr Kd.bool))) (fun x => (x.do_, (x.n, (x.keep, x.clone))))
theorem R_armoirelaw06_Op.L_do_ (x : R_armoirelaw06_Op) : Lens K_R_armoirelaw06_Op 0 (Kd.int .i64) (fun x => x.do_) (fun x y => { x with do_ := y }) x := Lens.to (Lens.comp (Lens.iso (fi := fun p => ⟨p.1, p.2.1, p.2.2.1, p.2.2.2⟩) (fun _ => rfl)) Lens.fst) rfl rfl (fun _ => rfl)
theorem R_armoirelaw06_Op.L_n (x : R_armoirelaw06_Op) : Lens K_R_armoirelaw06_Op 1 (Kd.int .i64) (fun x => x.n) (fun x y => { x with n := y }) x := Lens.to (Lens.comp (Lens.iso (fi := fun p => ⟨p.1, p.2.1, p.2.2.1, p.2.2.2⟩) (fun _ => rfl)) (Lens.comp (Lens.snd) Lens.fst)) rfl rfl (fun _ => rfl)
theorem R_armoirelaw06_Op.L_keep (x : R_armoirelaw06_Op) : Lens K_R_armoirelaw06_Op 2 Kd.hdr (fun x => x.keep) (fun x y => { x with keep := y }) x := Lens.to (Lens.comp (Lens.iso (fi := fun p => ⟨p.1, p.2.1, p.2.2.1, p.2.2.2⟩) (fun _ => rfl)) (Lens.comp (Lens.comp (Lens.snd) Lens.snd) Lens.fst)) rfl rfl (fun _ => rfl)
theorem R_armoirelaw06_Op.L_clone (x : R_armoirelaw06_Op) : Lens K_R_armoirelaw06_Op 3 Kd.bool (fun x => x.clone) (fun x y => { x with clone := y }) x := Lens.to (Lens.comp (Lens.iso (fi := fun p => ⟨p.1, p.2.1, p.2.2.1, p.2.2.2⟩) (fun _ => rfl)) (Lens.comp (Lens.comp (Lens.snd) Lens.snd) Lens.snd)) rfl rfl (fun _ => rfl)
theorem flat_R_armoirelaw06_Op : Flat K_R_armoirelaw06_Op := Flat.iso (Flat.pair Flat.I (Flat.pair Flat.I (Flat.pair Flat.sc Flat.B)))
theorem K_R_armoirelaw06_Op.mk {H : PH} {x : R_armoirelaw06_Op} {c0 : List Value} (h0 : (Kd.int .i64).R H x.do_ c0) {c1 : List Value} (h1 : (Kd.int .i64).R H x.n c1) {c2 : List Value} (h2 : Kd.hdr.R H x.keep c2) {c3 : List Value} (h3 : Kd.bool.R H x.clone c3) : K_R_armoirelaw06_Op.R H x (c0 ++ (c1 ++ (c2 ++ (c3)))) := ⟨_, _, rfl, h0, ⟨_, _, rfl, h1, ⟨_, _, rfl, h2, h3⟩⟩⟩
def K_S_armoireref06_Map : Kd S_armoireref06_Map := Kd.iso (Kd.pair (Kd.int .i64) (Kd.sl (Kd.int .i64))) (fun x => (x.from_, x.k))
theorem S_armoireref06_Map.L_from_ (x : S_armoireref06_Map) : Lens K_S_armoireref06_Map 0 (Kd.int .i64) (fun x => x.from_) (fun x y => { x with from_ := y }) x := Lens.to (Lens.comp (Lens.iso (fi := fun p => ⟨p.1, p.2⟩) (fun _ => rfl)) Lens.fst) rfl rfl (fun _ => rfl)
theorem S_armoireref06_Map.L_k (x : S_armoireref06_Map) : Lens K_S_armoireref06_Map 1 (Kd.sl (Kd.int .i64)) (fun x => x.k) (fun x y => { x with k := y }) x := Lens.to (Lens.comp (Lens.iso (fi := fun p => ⟨p.1, p.2⟩) (fun _ => rfl)) (Lens.snd)) rfl rfl (fun _ => rfl)
theorem K_S_armoireref06_Map.mk {H : PH} {x : S_armoireref06_Map} {c0 : List Value} (h0 : (Kd.int .i64).R H x.from_ c0) {c1 : List Value} (h1 : (Kd.sl (Kd.int .i64)).R H x.k c1) : K_S_armoireref06_Map.R H x (c0 ++ (c1)) := ⟨_, _, rfl, h0, h1⟩
def K_R_armoireref06_Map : Kd R_armoireref06_Map := Kd.iso (Kd.pair (Kd.int .i64) Kd.hdr) (fun x => (x.from_, x.k))
theorem R_armoireref06_Map.L_from_ (x : R_armoireref06_Map) : Lens K_R_armoireref06_Map 0 (Kd.int .i64) (fun x => x.from_) (fun x y => { x with from_ := y }) x := Lens.to (Lens.comp (Lens.iso (fi := fun p => ⟨p.1, p.2⟩) (fun _ => rfl)) Lens.fst) rfl rfl (fun _ => rfl)
theorem R_armoireref06_Map.L_k (x : R_armoireref06_Map) : Lens K_R_armoireref06_Map 1 Kd.hdr (fun x => x.k) (fun x y => { x with k := y }) x := Lens.to (Lens.comp (Lens.iso (fi := fun p => ⟨p.1, p.2⟩) (fun _ => rfl)) (Lens.snd)) rfl rfl (fun _ => rfl)
theorem flat_R_armoireref06_Map : Flat K_R_armoireref06_Map := Flat.iso (Flat.pair Flat.I Flat.sc)
theorem K_R_armoireref06_Map.mk {H : PH} {x : R_armoireref06_Map} {c0 : List Value} (h0 : (Kd.int .i64).R H x.from_ c0) {c1 : List Value} (h1 : Kd.hdr.R H x.k c1) : K_R_armoireref06_Map.R H x (c0 ++ (c1)) := ⟨_, _, rfl, h0, h1⟩
theorem K_S_armoirelaw06_Op.open {H : PH} {x : S_armoirelaw06_Op} {cs : List Value} (h : K_S_armoirelaw06_Op.R H x cs) : ∃ (A3 : Option Addr) (N3 : Nat), SlR (Kd.int .i64) H A3 N3 x.keep ∧ cs = ([.int .i64 x.do_] : List Value) ++ (([.int .i64 x.n] : List Value) ++ (([.slice A3 x.keep.length N3] : List Value) ++ (([.bool x.clone] : List Value)))) := by
  obtain ⟨_, _, rfl, rfl, ⟨_, _, rfl, rfl, ⟨_, _, rfl, ⟨A3, N3, rfl, F3⟩, rfl⟩⟩⟩ := h
  exact ⟨A3, N3, F3, rfl⟩
theorem ty3 : TyOk Try.prog 3 (Kd.int .i64) := ⟨by kernel_rfl, _, Try.underlying3, rfl⟩
theorem ty4 : TyOk Try.prog 4 Kd.bool := ⟨by kernel_rfl, _, Try.underlying4, rfl⟩
theorem ty28r : TyOk Try.prog 28 Kd.hdr := ⟨by kernel_rfl, _, Try.underlying28, rfl⟩
theorem ty30 : TyOk Try.prog 30 K_S_armoirelaw06_Op := ⟨by kernel_rfl, _, Try.underlying30, rfl⟩
theorem ty51r : TyOk Try.prog 51 Kd.hdr := ⟨by kernel_rfl, _, Try.underlying51, rfl⟩
theorem ty54 : TyOk Try.prog 54 Kd.u8 := ⟨by kernel_rfl, _, Try.underlying54, rfl⟩
theorem el22 : ElOk Try.prog 22 30 K_S_armoirelaw06_Op 48 := ⟨Try.underlying22, by kernel_rfl⟩
theorem el28 : ElOk Try.prog 28 3 (Kd.int .i64) 8 := ⟨Try.underlying28, by kernel_rfl⟩
theorem el51 : ElOk Try.prog 51 54 Kd.u8 1 := ⟨Try.underlying51, by kernel_rfl⟩
theorem sz3 : (Try.prog.info? 3).map (·.size) = some 1 := by kernel_rfl
theorem sz4 : (Try.prog.info? 4).map (·.size) = some 1 := by kernel_rfl
theorem sz28 : (Try.prog.info? 28).map (·.size) = some 1 := by kernel_rfl
theorem sz30 : (Try.prog.info? 30).map (·.size) = some 4 := by kernel_rfl
theorem sz51 : (Try.prog.info? 51).map (·.size) = some 1 := by kernel_rfl
theorem sz54 : (Try.prog.info? 54).map (·.size) = some 1 := by kernel_rfl
theorem call7 : CallOk Try.prog 7 := CallOk.mk Try.func7 (by kernel_rfl) (by kernel_rfl)
theorem call8 : CallOk Try.prog 8 := CallOk.mk Try.func8 (by kernel_rfl) (by kernel_rfl)
theorem call9 : CallOk Try.prog 9 := CallOk.mk Try.func9 (by kernel_rfl) (by kernel_rfl)
theorem call10 : CallOk Try.prog 10 := CallOk.mk Try.func10 (by kernel_rfl) (by kernel_rfl)
theorem call11 : CallOk Try.prog 11 := CallOk.mk Try.func11 (by kernel_rfl) (by kernel_rfl)
theorem call12 : CallOk Try.prog 12 := CallOk.mk Try.func12 (by kernel_rfl) (by kernel_rfl)
theorem call13 : CallOk Try.prog 13 := CallOk.mk Try.func13 (by kernel_rfl) (by kernel_rfl)
theorem call14 : CallOk Try.prog 14 := CallOk.mk Try.func14 (by kernel_rfl) (by kernel_rfl)
theorem call15 : CallOk Try.prog 15 := CallOk.mk Try.func15 (by kernel_rfl) (by kernel_rfl)
theorem call16 : CallOk Try.prog 16 := CallOk.mk Try.func16 (by kernel_rfl) (by kernel_rfl)
theorem call17 : CallOk Try.prog 17 := CallOk.mk Try.func17 (by kernel_rfl) (by kernel_rfl)
theorem call18 : CallOk Try.prog 18 := CallOk.mk Try.func18 (by kernel_rfl) (by kernel_rfl)
theorem call19 : CallOk Try.prog 19 := CallOk.mk Try.func19 (by kernel_rfl) (by kernel_rfl)
theorem call20 : CallOk Try.prog 20 := CallOk.mk Try.func20 (by kernel_rfl) (by kernel_rfl)
theorem call21 : CallOk Try.prog 21 := CallOk.mk Try.func21 (by kernel_rfl) (by kernel_rfl)
theorem call22 : CallOk Try.prog 22 := CallOk.mk Try.func22 (by kernel_rfl) (by kernel_rfl)
theorem call23 : CallOk Try.prog 23 := CallOk.mk Try.func23 (by kernel_rfl) (by kernel_rfl)
theorem call24 : CallOk Try.prog 24 := CallOk.mk Try.func24 (by kernel_rfl) (by kernel_rfl)
theorem call25 : CallOk Try.prog 25 := CallOk.mk Try.func25 (by kernel_rfl) (by kernel_rfl)
theorem call26 : CallOk Try.prog 26 := CallOk.mk Try.func26 (by kernel_rfl) (by kernel_rfl)
theorem call27 : CallOk Try.prog 27 := CallOk.mk Try.func27 (by kernel_rfl) (by kernel_rfl)
theorem call28 : CallOk Try.prog 28 := CallOk.mk Try.func28 (by kernel_rfl) (by kernel_rfl)
theorem call29 : CallOk Try.prog 29 := CallOk.mk Try.func29 (by kernel_rfl) (by kernel_rfl)
theorem call30 : CallOk Try.prog 30 := CallOk.mk Try.func30 (by kernel_rfl) (by kernel_rfl)
theorem call31 : CallOk Try.prog 31 := CallOk.mk Try.func31 (by kernel_rfl) (by kernel_rfl)
theorem call32 : CallOk Try.prog 32 := CallOk.mk Try.func32 (by kernel_rfl) (by kernel_rfl)
theorem call33 : CallOk Try.prog 33 := CallOk.mk Try.func33 (by kernel_rfl) (by kernel_rfl)
theorem call34 : CallOk Try.prog 34 := CallOk.mk Try.func34 (by kernel_rfl) (by kernel_rfl)
end Go.Proofs.Ytpffemcpfddjbaa
